/- Floats as whole numbers of units, as the reference makes them; their order. Plain law; no condition beyond those of the theorems. -/
import Derived.Test.YtghjbadanhplnaaLimbZ
import Derived.Test.YtghjbadanhplnaaOrdZ
import Derived.Test.YtghjbadanhplnaaPFx5
namespace Go.Proofs.Ytghjbadanhplnaa.PF
open Go.RowKit Go.Proofs.YtghjbadanhplnaaW.PrintWords Go.Proofs.YtghjbadanhplnaaW.PrintLast Go.Proofs.YtghjbadanhplnaaW.PrintMore Go.Proofs.Ytghjbadanhplnaa.Limb Go.Proofs.Ytghjbadanhplnaa.Ord
set_option linter.unusedVariables false
set_option linter.unusedSimpArgs false

def sgn (b : Bool) (v : Int) : Int := if b = true then -v else v
theorem sgn_not (b : Bool) (v : Int) : sgn (!b) v = -sgn b v := by
  cases b <;> simp [sgn]
theorem good_pos {r : List Int} {v : Int} (h : Good r v) : 0 ≤ v := by
  obtain ⟨h1, _, rfl⟩ := h
  exact valL_nonneg h1
theorem good_len {r : List Int} {v : Int} (h : Good r v) : r.length = 0 ↔ v = 0 := by
  obtain ⟨h1, h2, rfl⟩ := h
  rw [valL_zero h1 h2, List.length_eq_zero_iff]
theorem big_some (neg : Bool) (l : List Int) (v : Int) (hl : Good l v) (hx : l.length ≤ 1000000) (k : Nat) (hk : 1100000 ≤ k) : ∃ b t, spec_l1Big.f k neg l = some (b, t) ∧ Good t v ∧ t.length ≤ l.length ∧ sgn b v = sgn neg v := by
  obtain ⟨t, e1, e2, e3⟩ := trim_some l hx hl.1 k (by omega)
  rw [hl.2.2] at e2
  unfold spec_l1Big.f
  rw [e1, Option.bind_some]
  cases neg with
  | false =>
    rw [if_neg (by decide)]
    exact ⟨_, _, rfl, e2, e3, rfl⟩
  | true =>
    rw [if_pos rfl]
    refine ⟨_, _, rfl, e2, e3, ?_⟩
    by_cases h : v = 0
    · rw [h]
      simp [sgn]
    · have : ¬ t.length = 0 := fun h2 => h ((good_len e2).1 h2)
      rw [show decide ((t.length : Int) > 0) = true from decide_eq_true (by omega)]
theorem minus_some (neg : Bool) (l : List Int) (v : Int) (hl : Good l v) (hx : l.length ≤ 1000000) (k : Nat) (hk : 1100000 ≤ k) : ∃ b t, spec_l1Minus.f k neg l = some (b, t) ∧ Good t v ∧ t.length ≤ l.length ∧ sgn b v = -sgn neg v := by
  obtain ⟨b, t, e1, e2, e3, e4⟩ := big_some (!neg) l v hl hx k hk
  unfold spec_l1Minus.f
  rw [e1, Option.bind_some]
  exact ⟨b, t, rfl, e2, e3, by rw [e4, sgn_not]⟩
theorem sum_some (a0 : Bool) (la : List Int) (u : Int) (b0 : Bool) (lb : List Int) (v : Int) (ha : Good la u) (hb : Good lb v) (hx : la.length ≤ 10000) (hy : lb.length ≤ 10000) (k : Nat) (hk : 1100000 ≤ k) :
    ∃ b t w, spec_l1Sum.f k a0 la b0 lb = some (b, t) ∧ Good t w ∧ t.length ≤ 10001 ∧ sgn b w = sgn a0 u + sgn b0 v := by
  have hu := good_pos ha
  have hv := good_pos hb
  unfold spec_l1Sum.f
  by_cases e : a0 = b0
  · subst e
    rw [if_pos (by simp)]
    obtain ⟨r, e1, e2, e3⟩ := add_some la lb u v ha hb (by omega) (by omega) k (by omega)
    obtain ⟨b, t, e4, e5, e6, e7⟩ := big_some a0 r (u + v) e2 (by omega) k hk
    rw [e1, Option.bind_some, e4, Option.bind_some]
    refine ⟨b, t, u + v, rfl, e5, by omega, ?_⟩
    rw [e7]
    cases a0 <;> simp [sgn] <;> omega
  · rw [if_neg (by simpa using e)]
    obtain ⟨c, e1, e2⟩ := cmp_some la lb u v (by omega) (by omega) ha hb k (by omega)
    rw [e1, Option.bind_some]
    by_cases hc : c ≥ 0
    · rw [if_pos hc]
      obtain ⟨r, e3, e4, e5⟩ := sub_some la lb u v ha hb (by omega) (by omega) k (by omega)
      obtain ⟨b, t, e6, e7, e8, e9⟩ := big_some a0 r (u - v) e4 (by omega) k hk
      rw [e3, Option.bind_some, e6, Option.bind_some]
      refine ⟨b, t, u - v, rfl, e7, by omega, ?_⟩
      rw [e9]
      cases a0 <;> cases b0 <;> simp [sgn] at e ⊢ <;> omega
    · rw [if_neg hc]
      obtain ⟨r, e3, e4, e5⟩ := sub_some lb la v u hb ha (by omega) (by omega) k (by omega)
      obtain ⟨b, t, e6, e7, e8, e9⟩ := big_some b0 r (v - u) e4 (by omega) k hk
      rw [e3, Option.bind_some, e6, Option.bind_some]
      refine ⟨b, t, v - u, rfl, e7, by omega, ?_⟩
      rw [e9]
      cases a0 <;> cases b0 <;> simp [sgn] at e ⊢ <;> omega
theorem l2order_some (a0 : Bool) (la : List Int) (u : Int) (b0 : Bool) (lb : List Int) (v : Int) (ha : Good la u) (hb : Good lb v) (hx : la.length ≤ 10000) (hy : lb.length ≤ 10000) (k : Nat) (hk : 1100000 ≤ k) :
    spec_l2Order.f k a0 la b0 lb = some (if sgn a0 u = sgn b0 v then 0 else if sgn a0 u < sgn b0 v then -1 else 1) := by
  obtain ⟨b, t, e1, e2, e3, e4⟩ := minus_some b0 lb v hb (by omega) k hk
  obtain ⟨c, s, w, f1, f2, f3, f4⟩ := sum_some a0 la u b t v ha e2 hx (by omega) k hk
  unfold spec_l2Order.f
  rw [e1, Option.bind_some]
  dsimp only
  rw [f1, Option.bind_some]
  dsimp only
  rw [e4] at f4
  have hw := good_pos f2
  have hl := good_len f2
  generalize sgn a0 u = x at *
  generalize sgn b0 v = y at *
  by_cases h0 : w = 0
  · rw [if_pos (by have := hl.2 h0; omega)]
    have : x = y := by
      rw [h0] at f4
      cases c <;> simp [sgn] at f4 <;> omega
    rw [if_pos this]
  · have h1 : ¬ s.length = 0 := fun h => h0 (hl.1 h)
    rw [if_neg (by omega)]
    cases c with
    | true =>
      simp [sgn] at f4
      rw [if_pos rfl, if_neg (by omega), if_pos (by omega)]
    | false =>
      simp [sgn] at f4
      rw [if_neg (by decide), if_neg (by omega), if_neg (by omega)]

theorem mask_u64 (x : Int) (n : Nat) (hn : n ≤ 63) (h0 : 0 ≤ x) (h1 : x < 18446744073709551616) : Go.bits .and .u64 x ((2 ^ n - 1 : Nat) : Int) = x % ((2 ^ n : Nat) : Int) := by
  obtain ⟨a, rfl⟩ := Int.eq_ofNat_of_zero_le h0
  have hp : 2 ^ n ≤ 2 ^ 63 := Nat.pow_le_pow_right (by decide) hn
  rw [bits_and_u64_nat a _ (by omega) (by omega), Nat.and_two_pow_sub_one_eq_mod]
  exact Int.natCast_emod a (2 ^ n)
theorem sign_nat (a : Nat) (h : a < 18446744073709551616) : a &&& 9223372036854775808 = if 9223372036854775808 ≤ a then 9223372036854775808 else 0 := by
  have h2 : a = 9223372036854775808 * (a / 9223372036854775808) + a % 9223372036854775808 := by omega
  have hlt : a % 9223372036854775808 < 2 ^ 63 := Nat.mod_lt _ (by decide)
  have hz : (a % 9223372036854775808) &&& 2 ^ 63 = 0 := by
    apply Nat.eq_of_testBit_eq
    intro i
    rw [Nat.testBit_and, Nat.testBit_two_pow, Nat.zero_testBit]
    by_cases e : 63 = i
    · subst e
      rw [Nat.testBit_lt_two_pow hlt]
      rfl
    · simp [e]
  by_cases c : 9223372036854775808 ≤ a
  · rw [if_pos c]
    have hq : a / 9223372036854775808 = 1 := by omega
    have e1 : a = 2 ^ 63 ||| (a % 9223372036854775808) := by
      have := Nat.two_pow_add_eq_or_of_lt hlt 1
      rw [Nat.mul_one] at this
      rw [← this]
      omega
    have e2 : a &&& 2 ^ 63 = 2 ^ 63 := by
      rw [e1, Nat.and_or_distrib_right, Nat.and_self, hz, Nat.or_zero]
    exact e2
  · rw [if_neg c]
    have e1 : a % 9223372036854775808 = a := by omega
    rw [e1] at hz
    exact hz
theorem neg_some (x : Int) (h0 : 0 ≤ x) (h1 : x < 18446744073709551616) : spec_l2Neg.f x = some (negOf x.toNat) := by
  obtain ⟨a, rfl⟩ := Int.eq_ofNat_of_zero_le h0
  unfold spec_l2Neg.f negOf
  rw [show (9223372036854775808 : Int) = ((9223372036854775808 : Nat) : Int) from rfl, bits_and_u64_nat a _ (by omega) (by decide), sign_nat a (by omega), Int.toNat_natCast]
  by_cases c : 9223372036854775808 ≤ a
  · rw [if_pos c, show a / 9223372036854775808 = 1 by omega]
    rfl
  · rw [if_neg c, show a / 9223372036854775808 = 0 by omega]
    rfl
theorem abs_some (x : Int) (h0 : 0 ≤ x) (h1 : x < 18446744073709551616) : Go.bits .andNot .u64 x 9223372036854775808 = ((rungOf x.toNat : Nat) : Int) := by
  obtain ⟨a, rfl⟩ := Int.eq_ofNat_of_zero_le h0
  have h2 : (BitVec.ofInt 64 (a : Int)).toNat = a := by
    rw [BitVec.ofInt_natCast, BitVec.toNat_ofNat]; exact Nat.mod_eq_of_lt (by omega)
  show IntKind.u64.wrap ((BitVec.ofInt 64 (a : Int) &&& ~~~ BitVec.ofInt 64 9223372036854775808).toNat : Int) = _
  rw [BitVec.toNat_and, h2, show (~~~ BitVec.ofInt 64 9223372036854775808 : BitVec 64).toNat = 2 ^ 63 - 1 from by decide, Nat.and_two_pow_sub_one_eq_mod, IntKind.wrap_u64]
  unfold rungOf
  rw [Int.toNat_natCast]
  omega
theorem mag_some (x : Int) (h0 : 0 ≤ x) (h1 : x < 18446744073709551616) (k : Nat) (hk : 10 ≤ k) : ∃ r, spec_l2Mag.f k x = some r ∧ Good r x ∧ r.length ≤ 2 := by
  unfold spec_l2Mag.f
  have hok : okL [(Go.bits .and .u64 x 4294967295) % 4294967296, (x / 4294967296) % 4294967296] := by
    intro y hy
    simp at hy
    rcases hy with rfl | rfl <;> omega
  obtain ⟨r, e1, e2, e3⟩ := trim_some _ (by simp) hok k (by simp; omega)
  rw [e1, Option.bind_some]
  refine ⟨r, rfl, ?_, by simpa using e3⟩
  have : valL [(Go.bits .and .u64 x 4294967295) % 4294967296, (x / 4294967296) % 4294967296] = x := by
    rw [and32 x h0 h1]
    simp only [valL]
    omega
  rw [this] at e2
  exact e2
theorem or_hid (f : Int) (h0 : 0 ≤ f) (h1 : f < 4503599627370496) : Go.bits .or .u64 f 4503599627370496 = f + 4503599627370496 := by
  obtain ⟨a, rfl⟩ := Int.eq_ofNat_of_zero_le h0
  rw [show (4503599627370496 : Int) = ((2 ^ 52 : Nat) : Int) from rfl, bits_or_u64_nat a _ (by omega) (by decide), Nat.or_comm]
  have := Nat.two_pow_add_eq_or_of_lt (i := 52) (b := a) (by omega) 1
  rw [Nat.mul_one] at this
  rw [← this]
  omega
theorem units_some (x : Int) (h0 : 0 ≤ x) (h1 : x < 18446744073709551616) (hf : rungOf x.toNat < infR) (k : Nat) (hk : 200000 ≤ k) : ∃ r, spec_l2Units.f k x = some r ∧ Good r ((unitsOf x.toNat : Nat) : Int) ∧ r.length ≤ 100 := by
  have hi : infR = 9218868437227405312 := rfl
  have hr : ((rungOf x.toNat : Nat) : Int) = x % 9223372036854775808 := by
    unfold rungOf
    omega
  have he : Go.bits .and .u64 (x / 4503599627370496) 2047 = (x / 4503599627370496) % 2048 := mask_u64 _ 11 (by decide) (by omega) (by omega)
  have hfr : Go.bits .and .u64 x 4503599627370495 = x % 4503599627370496 := mask_u64 _ 52 (by decide) h0 h1
  unfold spec_l2Units.f
  rw [he, hfr, wrap_in ((x / 4503599627370496) % 2048) (by omega) (by omega)]
  unfold unitsOf
  by_cases c : (x / 4503599627370496) % 2048 = 0
  · rw [if_pos c, if_pos (by omega)]
    obtain ⟨r, e1, e2, e3⟩ := mag_some (x % 4503599627370496) (by omega) (by omega) k (by omega)
    rw [e1, Option.bind_some]
    refine ⟨r, rfl, ?_, by omega⟩
    rw [show ((rungOf x.toNat : Nat) : Int) = x % 4503599627370496 by omega]
    exact e2
  · rw [if_neg c, if_neg (by omega), or_hid _ (by omega) (by omega)]
    obtain ⟨r, e1, e2, e3⟩ := mag_some (x % 4503599627370496 + 4503599627370496) (by omega) (by omega) k (by omega)
    rw [e1, Option.bind_some, wrap_in ((x / 4503599627370496) % 2048 - 1) (by omega) (by omega)]
    obtain ⟨n, hn⟩ : ∃ n : Nat, (x / 4503599627370496) % 2048 - 1 = (n : Int) := ⟨((x / 4503599627370496) % 2048 - 1).toNat, by omega⟩
    rw [hn]
    obtain ⟨s, f1, f2, f3⟩ := shl_some r _ n e2 (by omega) (by omega) k (by omega)
    rw [f1, Option.bind_some]
    refine ⟨s, rfl, ?_, by omega⟩
    have e4 : rungOf x.toNat / 4503599627370496 - 1 = n := by omega
    have e5 : ((4503599627370496 + rungOf x.toNat % 4503599627370496 : Nat) : Int) = x % 4503599627370496 + 4503599627370496 := by omega
    rw [e4, Int.natCast_mul, e5, Int.natCast_pow]
    exact f2
theorem whole_some (x : Int) (h0 : 0 ≤ x) (h1 : x < 18446744073709551616) (hf : rungOf x.toNat < infR) (k : Nat) (hk : 1100000 ≤ k) : ∃ b t, spec_l2Whole.f k x = some (b, t) ∧ Good t ((unitsOf x.toNat : Nat) : Int) ∧ t.length ≤ 100 ∧ sgn b ((unitsOf x.toNat : Nat) : Int) = sUnits x.toNat := by
  obtain ⟨r, e1, e2, e3⟩ := units_some x h0 h1 hf k (by omega)
  obtain ⟨b, t, f1, f2, f3, f4⟩ := big_some (negOf x.toNat) r _ e2 (by omega) k hk
  unfold spec_l2Whole.f
  rw [neg_some x h0 h1, Option.bind_some, e1, Option.bind_some, f1, Option.bind_some]
  exact ⟨b, t, rfl, f2, by omega, by rw [f4]; rfl⟩
theorem cmp_int (a b : Int) : compare a b = if a < b then Ordering.lt else if a = b then Ordering.eq else Ordering.gt := rfl
theorem cmp_nat (a b : Nat) : compare a b = if a < b then Ordering.lt else if a = b then Ordering.eq else Ordering.gt := rfl
theorem order_self (x : Nat) (h : ¬ infR < rungOf x) : Ieee.double.order x x = some .eq := by
  rcases Nat.lt_or_ge (rungOf x) infR with h1 | h1
  · rw [order_fin x x h1 h1]
    rw [cmp_int, if_neg (by omega), if_pos rfl]
  · rw [order_ii x x (by omega) (by omega)]
    rw [cmp_nat, if_neg (by omega), if_pos rfl]
theorem f64_double : FloatKind.f64.format = Ieee.double := rfl

end Go.Proofs.Ytghjbadanhplnaa.PF
