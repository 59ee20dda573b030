/- The reference's floor of a double is IEEE's. Plain law; no condition beyond those of the theorems. -/
import Derived.Test.YtghjbadanhplnaaSpecY
namespace Go.Proofs.Ytghjbadanhplnaa.PF
open Go.RowKit Go.Proofs.YtghjbadanhplnaaW.PrintWords Go.Proofs.YtghjbadanhplnaaW.PrintLast Go.Proofs.YtghjbadanhplnaaW.PrintMore Go.Proofs.Ytghjbadanhplnaa.Limb Go.Proofs.Ytghjbadanhplnaa.Ord Go.Proofs.Ytghjbadanhplnaa.Pure
open Ieee
set_option linter.unusedVariables false
set_option linter.unusedSimpArgs false

theorem cut_down (neg : Bool) (n d : Nat) : Toward.down.cut neg n d = n / 2 ^ d + (neg && n % 2 ^ d != 0).toNat := by
  unfold Toward.cut
  dsimp only
  rw [Nat.shiftLeft_eq, Nat.one_mul]
  rcases Nat.lt_or_ge (n.log2 + 2) d with h | h
  · rw [Nat.min_eq_right (by omega)]
    have h1 : n < 2 ^ (n.log2 + 1) := Nat.lt_log2_self
    have h2 : (2 : Nat) ^ (n.log2 + 2) ≤ 2 ^ d := Nat.pow_le_pow_right (by decide) (by omega)
    have h3 : (2 : Nat) ^ (n.log2 + 2) = 2 * 2 ^ (n.log2 + 1) := by rw [Nat.pow_succ]; omega
    rw [Nat.div_eq_of_lt (show n < 2 ^ (n.log2 + 2) by omega), Nat.mod_eq_of_lt (show n < 2 ^ (n.log2 + 2) by omega), Nat.div_eq_of_lt (show n < 2 ^ d by omega), Nat.mod_eq_of_lt (show n < 2 ^ d by omega)]
  · rw [Nat.min_eq_left h]
/-- The floor, as a number of wholes. -/
def floK (x : Nat) : Nat := unitsOf x / 2 ^ 1074 + (negOf x && unitsOf x % 2 ^ 1074 != 0).toNat
theorem flo_fin (x : Nat) (hx : rungOf x < infR) : flo x = double.nearest (negOf x) (floK x) 0 := by
  obtain ⟨m, p, e, u⟩ := read_fin x hx
  unfold flo
  show double.write (Datum.integral .down (double.read x)) = _
  rw [e]
  show double.nearest (negOf x) (Toward.down.cut (negOf x) (m <<< (-1074 + (p : Int)).toNat) (-(-1074 + (p : Int))).toNat) 0 = _
  rw [cut_down, Nat.shiftLeft_eq]
  unfold floK
  rw [u]
  generalize negOf x = s
  congr 1
  rcases Nat.lt_or_ge p 1074 with h | h
  · rw [show (-1074 + (p : Int)).toNat = 0 by omega, show (-(-1074 + (p : Int))).toNat = 1074 - p by omega, Nat.pow_zero, Nat.mul_one]
    have hp : (2 : Nat) ^ 1074 = 2 ^ (1074 - p) * 2 ^ p := by rw [← Nat.pow_add, Nat.sub_add_cancel (Nat.le_of_lt h)]
    rw [hp, Nat.mul_div_mul_right _ _ (Nat.two_pow_pos p), Nat.mul_mod_mul_right]
    have h1 := Nat.two_pow_pos p
    generalize m % 2 ^ (1074 - p) = r
    by_cases c : r = 0
    · rw [c, Nat.zero_mul]
    · have : r * 2 ^ p ≠ 0 := fun h => by
        rcases Nat.mul_eq_zero.1 h with h | h
        · exact c h
        · omega
      rw [show (r != 0) = true by simp [c], show (r * 2 ^ p != 0) = true by simp [this]]
  · rw [show (-1074 + (p : Int)).toNat = p - 1074 by omega, show (-(-1074 + (p : Int))).toNat = 0 by omega, Nat.pow_zero, Nat.div_one, Nat.mod_one]
    have hp : (2 : Nat) ^ p = 2 ^ (p - 1074) * 2 ^ 1074 := (congrArg (fun z => 2 ^ z) (Nat.sub_add_cancel h).symm).trans (Nat.pow_add 2 (p - 1074) 1074)
    have hq := Nat.two_pow_pos 1074
    generalize (2 : Nat) ^ 1074 = X at *
    rw [hp, ← Nat.mul_assoc, Nat.mul_div_cancel _ hq, Nat.mul_mod_left]
theorem add_zero_flo (x : Nat) (hx : rungOf x < infR) : canonZ (double.add (flo x) 0) = RWw (if floK x = 0 then false else negOf x) ((floK x : Int) * 2 ^ 1074) 1 := by
  have hF : ((flo x : Nat) : Int) = RWw (negOf x) ((floK x : Int) * 2 ^ 1074) 1 := by
    rw [flo_fin x hx, nearest_RW _ _ 0 1074 0 (by omega)]
    rfl
  generalize flo x = F at *
  generalize floK x = K at *
  generalize negOf x = s at *
  have hM : (0 : Int) ≤ (K : Int) * 2 ^ 1074 := Int.mul_nonneg (by omega) (Int.le_of_lt (p2_pos _))
  obtain ⟨r, r1, r2, r3⟩ := RW_parts s ((K : Int) * 2 ^ 1074) 1 hM (by decide)
  obtain ⟨f1, f2, f3⟩ := word_facts s r F r1 (hF.trans r3)
  have hz : rungOf 0 = 0 := rfl
  have hi := hiR
  have hK : K ≠ 0 → r ≠ 0 := by
    intro hk hr
    have h1 := eOf_pq K 1074 0 hk (Or.inr rfl)
    rw [show (2 : Int) ^ 0 = 1 from rfl] at h1
    have h2 := halfUp_nonneg (n := (K : Int) * 2 ^ 1074) (d := 1 * 2 ^ eOf ((K : Int) * 2 ^ 1074) 1) hM (Int.mul_pos (by decide) (p2_pos _))
    generalize halfUp ((K : Int) * 2 ^ 1074) (1 * 2 ^ eOf ((K : Int) * 2 ^ 1074) 1) = hu at *
    generalize eOf ((K : Int) * 2 ^ 1074) 1 = E at *
    omega
  by_cases c : r = infR
  · rw [add_if F 0 f3 (by omega) (by rw [hz, hi]; decide)]
    show canonW F = _
    rw [canon_low F (by omega), hF]
    have hk : K ≠ 0 := by
      intro hk
      subst hk
      rw [Int.natCast_zero, Int.zero_mul, RWw_zero _ _ (by decide)] at r3
      obtain ⟨_, g2, _⟩ := word_facts s 0 F (Nat.zero_le _) (by rw [hF, Int.natCast_zero, Int.zero_mul, RWw_zero _ _ (by decide)])
      omega
    rw [if_neg hk]
  · obtain ⟨w, hw, ew⟩ := add_fin F 0 (by omega) (by rw [hz, hi]; decide)
    have hs0 : sUnits 0 = 0 := by decide
    rw [hw]
    show canonW w = _
    rw [canon_RW _ _ _ (by omega) (by decide) w ew, hs0, Int.add_zero]
    by_cases hk : K = 0
    · subst hk
      obtain ⟨_, g2, _⟩ := word_facts s 0 F (Nat.zero_le _) (by rw [hF, Int.natCast_zero, Int.zero_mul, RWw_zero _ _ (by decide)])
      have hu := (units_zero F).2 g2
      have hs : sUnits F = 0 := by unfold sUnits; rw [hu]; cases negOf F <;> rfl
      rw [hs, if_pos rfl, if_pos rfl, show negOf 0 = false from rfl, Bool.and_false]
      rw [show ((Int.natAbs 0 : Nat) : Int) = 0 from rfl, Int.natCast_zero, Int.zero_mul]
    · have hu : unitsOf F ≠ 0 := fun h => hK hk (by rw [← f2]; exact (units_zero F).1 h)
      rw [if_neg hk, r3]
      have hown := RWw_own F (by omega)
      unfold sUnits
      rw [f1]
      cases s with
      | true =>
        rw [show (if true = true then -(unitsOf F : Int) else (unitsOf F : Int)) = -(unitsOf F : Int) from rfl, if_neg (by omega), decide_eq_true (by omega), show ((Int.natAbs (-(unitsOf F : Int)) : Nat) : Int) = (unitsOf F : Int) by omega, hown, f2]
      | false =>
        rw [show (if false = true then -(unitsOf F : Int) else (unitsOf F : Int)) = (unitsOf F : Int) from rfl, if_neg (by omega), decide_eq_false (by omega), show ((Int.natAbs ((unitsOf F : Int)) : Nat) : Int) = (unitsOf F : Int) by omega, hown, f2]
theorem bigOfM1 (k : Nat) (hk : 1100000 ≤ k) : ∃ t, spec_BigOf.f k (-1) = some (true, t) ∧ Good t 1 ∧ t.length ≤ 2 := by
  obtain ⟨t, e1, e2, e3⟩ := trim_some [1, 0] (by simp) (by intro x hx; simp at hx; omega) k (by simp; omega)
  have hv : valL [1, 0] = 1 := rfl
  rw [hv] at e2
  refine ⟨t, ?_, e2, by simpa using e3⟩
  unfold spec_BigOf.f
  rw [if_pos (by decide), show ([(Go.bits .and .u64 (IntKind.u64.wrap (-(IntKind.u64.wrap (-1)))) 4294967295) % 4294967296, ((IntKind.u64.wrap (-(IntKind.u64.wrap (-1)))) / 4294967296) % 4294967296] : List Int) = [1, 0] from by decide]
  unfold spec_l1Big.f
  have hl : 0 < t.length := by
    rcases Nat.eq_zero_or_pos t.length with h | h
    · have := (good_len e2).1 h
      omega
    · exact h
  rw [e1, Option.bind_some, if_pos (by decide), Option.bind_some]
  rw [decide_eq_true (show ((t.length : Int) > 0) by omega)]
theorem floor_rest (k : Nat) (hk : 1100000 ≤ k) (b1 : Bool) (t1 : List Int) (u : Int) (b2 : Bool) (t2 : List Int) (D : Int) (b3 : Bool) (t3 : List Int) (v : Int) (h1 : Good t1 u) (h2 : Good t2 D) (h3 : Good t3 v) (l1 : t1.length ≤ 100) (l2 : t2.length ≤ 100) (l3 : t3.length ≤ 102) :
    ∃ b t, spec_l1Floor.j1 (k + 1) b1 t1 b2 t2 b3 t3 = some (b3, t3, b, t) := by
  have hq2 : (t3.length + 1) * (t2.length + 2) ≤ 103 * 102 := Nat.mul_le_mul (by omega) (by omega)
  obtain ⟨lm, m1, m2, m3⟩ := mul_some t3 t2 _ _ h3 h2 (by omega) k (by omega)
  obtain ⟨b4, t4, e1, e2, e3, e4⟩ := big_some (b3 != b2) lm _ m2 (by omega) k (by omega)
  obtain ⟨b5, t5, f1, f2, f3, f4⟩ := minus_some b4 t4 _ e2 (by omega) k (by omega)
  obtain ⟨b6, t6, w6, g1, g2, g3, g4⟩ := sum_some b1 t1 _ b5 t5 _ h1 f2 (by omega) (by omega) k (by omega)
  rw [spec_l1Floor.j1, m1, Option.bind_some, e1, Option.bind_some, f1, Option.bind_some, g1]
  exact ⟨_, _, rfl⟩
theorem floor_some (neg : Bool) (la lo : List Int) (u D : Int) (ha : Good la u) (ho : Good lo D) (hD : 0 < D) (l1 : la.length ≤ 100) (l2 : lo.length ≤ 100) (k : Nat) (hk : 1200000 ≤ k) :
    ∃ q t b r, spec_l1Floor.f k neg la false lo = some (q, t, b, r) ∧ Good t (u / D + (neg && decide (u % D ≠ 0)).toNat) ∧ t.length ≤ 102 ∧ q = (neg && decide (u / D + ((neg && decide (u % D ≠ 0)).toNat : Int) ≠ 0)) := by
  obtain ⟨k, rfl⟩ : ∃ m, k = m + 2 := ⟨k - 2, by omega⟩
  have hu := good_pos ha
  have hq0 := Int.ediv_nonneg hu (Int.le_of_lt hD)
  have hr0 := Int.emod_nonneg u (show D ≠ 0 by omega)
  obtain ⟨s, t, e1, e2, e3, e4, e5⟩ := div_some la lo u D ha ho hD (by omega) (by omega) (k + 2) (by omega)
  obtain ⟨b3, t3, f1, f2, f3, f4⟩ := big_some (neg != false) s _ e2 (by omega) (k + 2) (by omega)
  unfold spec_l1Floor.f
  rw [e1, Option.bind_some]
  dsimp only
  rw [f1, Option.bind_some]
  dsimp only
  have hb3 : b3 = (neg && decide (u / D ≠ 0)) := by
    by_cases c : u / D = 0
    · rw [big_neg _ _ _ _ _ f1 (List.length_eq_zero_iff.1 ((good_len f2).2 c)), c]
      simp
    · rw [decide_eq_true c, Bool.and_true]
      unfold sgn at f4
      cases neg <;> cases b3 <;> simp at f4 ⊢ <;> omega
  cases neg with
  | false =>
    rw [if_neg (by decide), spec_l1Floor.j0, if_neg (by decide)]
    obtain ⟨b, r, h⟩ := floor_rest k (by omega) false la u false lo D b3 t3 _ ha ho f2 l1 l2 (by omega)
    exact ⟨b3, t3, b, r, h, by simpa using f2, by omega, by rw [hb3]; rfl⟩
  | true =>
    rw [if_pos (by decide), spec_l1Floor.j0]
    by_cases c : u % D = 0
    · have hl := (good_len e3).2 c
      rw [show decide ((t.length : Int) > 0) = false from decide_eq_false (by omega), if_neg (by decide)]
      obtain ⟨b, r, h⟩ := floor_rest k (by omega) true la u false lo D b3 t3 _ ha ho f2 l1 l2 (by omega)
      refine ⟨b3, t3, b, r, h, by simpa [c] using f2, by omega, ?_⟩
      rw [hb3]
      simp [c]
    · have hl : ¬ t.length = 0 := fun h => c ((good_len e3).1 h)
      rw [show decide ((t.length : Int) > 0) = true from decide_eq_true (by omega), if_pos rfl]
      obtain ⟨m, g1, g2, g3⟩ := bigOfM1 (k + 1) (by omega)
      obtain ⟨b4, t4, v4, i1, i2, i3, i4⟩ := sum_some2 b3 t3 _ true m 1 f2 g2 (by omega) (by omega) (k + 1) (by omega)
      have hv4 := good_pos i2
      rw [g1, Option.bind_some]
      dsimp only
      rw [i1, Option.bind_some]
      obtain ⟨b, r, h⟩ := floor_rest k (by omega) true la u false lo D b4 t4 _ ha ho i2 l1 l2 (by omega)
      rw [f4] at i4
      have hv : v4 = u / D + 1 ∧ b4 = true := by
        unfold sgn at i4
        cases b4 <;> simp at i4 ⊢ <;> omega
      refine ⟨b4, t4, b, r, h, ?_, by omega, ?_⟩
      · simp only [c, ne_eq, not_false_iff, decide_true, Bool.and_true]
        rw [hv.1] at i2
        exact i2
      · rw [hv.2]
        simp only [c, ne_eq, not_false_iff, decide_true, Bool.and_true, Bool.true_and]
        exact (decide_eq_true (show ¬ (u / D + 1 = 0) by omega)).symm
end Go.Proofs.Ytghjbadanhplnaa.PF
