/- How two floats stand to each other, told by their units. Plain law; no condition beyond those of the theorems. -/
import Derived.RowKit
import Derived.Laws.FloatBits
namespace Go.Proofs.Ytghjbadanhplnaa.Ord
open Ieee
set_option linter.unusedVariables false
set_option linter.unusedSimpArgs false

def rungOf (w : Nat) : Nat := w % 9223372036854775808
def negOf (w : Nat) : Bool := w / 9223372036854775808 % 2 == 1
/-- The absolute value of a finite float, times 2 to the 1074. -/
def unitsOf (w : Nat) : Nat := if rungOf w < 4503599627370496 then rungOf w else (4503599627370496 + rungOf w % 4503599627370496) * 2 ^ (rungOf w / 4503599627370496 - 1)
def sUnits (w : Nat) : Int := if negOf w = true then -(unitsOf w : Int) else (unitsOf w : Int)
def infR : Nat := 9218868437227405312

theorem d_sign : double.signWeight = 9223372036854775808 := by decide
theorem d_bin : double.binade = 4503599627370496 := by decide
theorem d_inf : double.infRung = 9218868437227405312 := by decide
theorem d_least : double.leastPlace = -1074 := by decide
theorem read_eq (w : Nat) : double.read w = if rungOf w < 4503599627370496 then .number (negOf w) (rungOf w) (-1074) else if rungOf w < infR then .number (negOf w) (4503599627370496 + rungOf w % 4503599627370496) (-1074 + (rungOf w / 4503599627370496 - 1 : Nat)) else if rungOf w = infR then .infinity (negOf w) else .nan (negOf w) (rungOf w - infR) := by
  unfold Format.read
  simp only [d_sign, d_bin, d_inf, d_least]
  rfl
/-- A finite float, in one form: so many units of a place p above the least. -/
theorem read_fin (w : Nat) (h : rungOf w < infR) : ∃ m p : Nat, double.read w = .number (negOf w) m (-1074 + (p : Int)) ∧ unitsOf w = m * 2 ^ p := by
  rw [read_eq]
  unfold unitsOf
  by_cases c : rungOf w < 4503599627370496
  · rw [if_pos c, if_pos c]
    exact ⟨rungOf w, 0, by simp, by simp⟩
  · rw [if_neg c, if_neg c, if_pos h]
    exact ⟨_, _, rfl, rfl⟩
theorem compare_mul (a b c : Int) (hc : 0 < c) : compare (a * c) (b * c) = compare a b := by
  have h1 : a * c < b * c ↔ a < b := Int.mul_lt_mul_right hc
  have h2 : a * c = b * c ↔ a = b := Int.mul_eq_mul_right_iff (by omega)
  show compareOfLessAndEq (a * c) (b * c) = compareOfLessAndEq a b
  unfold compareOfLessAndEq
  simp only [h1, h2]
theorem signed_mul (s : Bool) (m u c : Nat) : signed s m u * (2 ^ c : Nat) = if s = true then -((m * 2 ^ (u + c) : Nat) : Int) else ((m * 2 ^ (u + c) : Nat) : Int) := by
  unfold signed
  rw [Nat.shiftLeft_eq, Nat.pow_add, ← Nat.mul_assoc]
  cases s
  · simp
  · simp [Int.neg_mul]
theorem order_fin (a b : Nat) (ha : rungOf a < infR) (hb : rungOf b < infR) : double.order a b = some (compare (sUnits a) (sUnits b)) := by
  obtain ⟨m, p, e1, u1⟩ := read_fin a ha
  obtain ⟨n, q, e2, u2⟩ := read_fin b hb
  unfold Format.order
  rw [e1, e2]
  show some (compare (signed (negOf a) m (-1074 + (p : Int) - min (-1074 + (p : Int)) (-1074 + (q : Int))).toNat) (signed (negOf b) n (-1074 + (q : Int) - min (-1074 + (p : Int)) (-1074 + (q : Int))).toNat)) = _
  have hp : (-1074 + (p : Int) - min (-1074 + (p : Int)) (-1074 + (q : Int))).toNat + min p q = p := by omega
  have hq : (-1074 + (q : Int) - min (-1074 + (p : Int)) (-1074 + (q : Int))).toNat + min p q = q := by omega
  generalize (-1074 + (p : Int) - min (-1074 + (p : Int)) (-1074 + (q : Int))).toNat = x at *
  generalize (-1074 + (q : Int) - min (-1074 + (p : Int)) (-1074 + (q : Int))).toNat = y at *
  rw [← compare_mul _ _ ((2 ^ min p q : Nat) : Int) (by exact_mod_cast Nat.pow_pos (by decide)), signed_mul, signed_mul, hp, hq, ← u1, ← u2]
  rfl
theorem order_nan (a b : Nat) (h : infR < rungOf a ∨ infR < rungOf b) : double.order a b = none := by
  have hn : ∀ w, infR < rungOf w → double.read w = .nan (negOf w) (rungOf w - infR) := fun w hw => by
    have hi : infR = 9218868437227405312 := rfl
    rw [read_eq, if_neg (by omega), if_neg (by omega), if_neg (by omega)]
  unfold Format.order
  rcases h with h | h
  · rw [hn a h]
    rfl
  · rw [hn b h]
    unfold Datum.order
    cases double.read a <;> rfl
theorem read_inf (w : Nat) (h : rungOf w = infR) : double.read w = .infinity (negOf w) := by
  have hi : infR = 9218868437227405312 := rfl
  rw [read_eq, if_neg (by omega), if_neg (by omega), if_pos h]
theorem order_ii (a b : Nat) (ha : rungOf a = infR) (hb : rungOf b = infR) : double.order a b = some (compare (negOf b).toNat (negOf a).toNat) := by
  unfold Format.order
  rw [read_inf a ha, read_inf b hb]
  rfl
theorem order_if (a b : Nat) (ha : rungOf a = infR) (hb : rungOf b < infR) : double.order a b = some (if negOf a = true then .lt else .gt) := by
  obtain ⟨n, q, e2, u2⟩ := read_fin b hb
  unfold Format.order
  rw [read_inf a ha, e2]
  rfl
theorem order_fi (a b : Nat) (ha : rungOf a < infR) (hb : rungOf b = infR) : double.order a b = some (if negOf b = true then .gt else .lt) := by
  obtain ⟨n, q, e2, u2⟩ := read_fin a ha
  unfold Format.order
  rw [read_inf b hb, e2]
  rfl

end Go.Proofs.Ytghjbadanhplnaa.Ord
