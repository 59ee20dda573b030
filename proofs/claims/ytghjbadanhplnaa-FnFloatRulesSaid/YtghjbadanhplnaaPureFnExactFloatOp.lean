/- At every operation and every two words the program's FloatOp answers as the reference's. Plain law; no condition. -/
import Derived.Test.YtghjbadanhplnaaFlorZ
import Derived.Test.YtghjbadanhplnaaPHx3
namespace Go.Proofs.Ytghjbadanhplnaa.PF
open Go.RowKit Go.Proofs.Ytghjbadanhplnaa.Pure Go.Proofs.Ytghjbadanhplnaa.Ord Go.Proofs.Ytghjbadanhplnaa.Limb Go.Proofs.YtghjbadanhplnaaW.PrintWords Go.Proofs.YtghjbadanhplnaaW.PrintLast
open Ieee
set_option linter.unusedVariables false
set_option linter.unusedSimpArgs false

def low (r : Nat) : Prop := rungOf r ≤ infR ∧ r < 18446744073709551616
theorem write_low (d : Datum) (h : ∀ s t, d ≠ .nan s t) : low (double.write d) := by
  cases d with
  | nan s t => exact absurd rfl (h s t)
  | infinity s =>
    obtain ⟨_, f2, f3⟩ := word_facts s infR (double.word s double.infRung) (Nat.le_refl _) (word_of s infR)
    exact ⟨by show rungOf (double.word s double.infRung) ≤ _; omega, f3⟩
  | number s m p =>
    have e := nearest_RW s m p (p + 1074).toNat (-(p + 1074)).toNat (by omega)
    obtain ⟨r, r1, _, r3⟩ := RW_parts s ((m : Int) * 2 ^ (p + 1074).toNat) (2 ^ (-(p + 1074)).toNat) (Int.mul_nonneg (by omega) (Int.le_of_lt (p2_pos _))) (p2_pos _)
    obtain ⟨_, f2, f3⟩ := word_facts s r (double.nearest s m p) r1 (e.trans r3)
    exact ⟨by show rungOf (double.nearest s m p) ≤ _; omega, f3⟩
theorem add_low {a b r : Nat} (h : double.add a b = some r) : low r := by
  unfold Format.add at h
  obtain ⟨d, hd, rfl⟩ := Option.map_eq_some_iff.1 h
  refine write_low d fun s t e => ?_
  subst e
  revert hd
  cases double.read a <;> cases double.read b <;> simp [Datum.sum]
theorem mul_low {a b r : Nat} (h : double.mul a b = some r) : low r := by
  unfold Format.mul at h
  obtain ⟨d, hd, rfl⟩ := Option.map_eq_some_iff.1 h
  refine write_low d fun s t e => ?_
  subst e
  revert hd
  cases double.read a <;> cases double.read b <;> simp [Datum.product]
theorem div_low {a b r : Nat} (h : double.div a b = some r) : low r := by
  unfold Format.div at h
  obtain ⟨d, hd, rfl⟩ := Option.map_eq_some_iff.1 h
  refine write_low d fun s t e => ?_
  subst e
  revert hd
  cases double.read a <;> cases double.read b <;> simp [Datum.quotient] <;> (repeat' split) <;> simp
theorem units_le (x : Nat) (hx : x < 9218868437227405312) (E : Nat) (hE : E = 2045) : (if x < 4503599627370496 then x else (4503599627370496 + x % 4503599627370496) * 2 ^ (x / 4503599627370496 - 1)) ≤ 9007199254740991 * 2 ^ E := by
  by_cases d : x < 4503599627370496
  · rw [if_pos d]
    have hX := Nat.two_pow_pos E
    generalize 2 ^ E = X at *
    have := Nat.mul_le_mul_left 9007199254740991 (Nat.succ_le_of_lt hX)
    omega
  · rw [if_neg d]
    exact Nat.mul_le_mul (by omega) (Nat.pow_le_pow_right (by decide) (by omega))
theorem floK_eq (u X : Nat) (b1 s : Bool) (h : u ≠ 0 → b1 = s) : ((u / X : Nat) : Int) + ((b1 && decide (((u % X : Nat) : Int) ≠ 0)).toNat : Int) = ((u / X + (s && u % X != 0).toNat : Nat) : Int) ∧ (u / X + (s && u % X != 0).toNat ≠ 0 → b1 = s) := by
  by_cases u0 : u = 0
  · rw [u0, Nat.zero_div, Nat.zero_mod]
    simp
  · have hb1 := h u0
    rw [hb1]
    refine ⟨?_, fun _ => rfl⟩
    generalize u % X = m
    generalize u / X = d
    by_cases m0 : m = 0
    · subst m0
      simp
    · have : (m != 0) = true := by simp [m0]
      rw [this, decide_eq_true (show ((m : Int) ≠ 0) by omega)]
      rfl
theorem bigQ_eq {r : Nat} (h : low r) : bigQ r = decide (rungOf r = infR) := by
  have h1 := h.2
  have h2 := abs_some (r : Int) (by omega) (by omega)
  have hi := hiR
  have h4 : absW r = rungOf r := by
    unfold absW
    rw [h2, Int.toNat_natCast, Int.toNat_natCast]
  have h3 : rungOf (rungOf r) = rungOf r := by unfold rungOf; omega
  have hm : rungOf 9218868437227405311 = 9218868437227405311 := rfl
  unfold bigQ
  rw [f64_double, h4]
  by_cases c : rungOf r = infR
  · rw [decide_eq_true c, order_if _ _ (by rw [h3]; exact c) (by rw [hm, hi]; decide)]
    have hn : negOf (rungOf r) = false := by unfold negOf rungOf; simp
    rw [hn]
    rfl
  · rw [decide_eq_false c]
    have hl := h.1
    rw [order_fin _ _ (by rw [h3]; omega) (by rw [hm, hi]; decide)]
    have hn : negOf (rungOf r) = false := by unfold negOf rungOf; simp
    have hle : unitsOf (rungOf r) ≤ unitsOf 9218868437227405311 := by
      unfold unitsOf
      rw [h3, hm]
      generalize rungOf r = x at *
      rw [if_neg (show ¬ (9218868437227405311 < 4503599627370496) by decide)]
      rw [show 4503599627370496 + 9218868437227405311 % 4503599627370496 = 9007199254740991 from rfl, show 9218868437227405311 / 4503599627370496 - 1 = 2045 from rfl]
      exact units_le x (by omega) 2045 rfl
    have hs1 : sUnits (rungOf r) = (unitsOf (rungOf r) : Int) := by unfold sUnits; rw [hn]; rfl
    have hs2 : sUnits 9218868437227405311 = (unitsOf 9218868437227405311 : Int) := by unfold sUnits; rw [show negOf 9218868437227405311 = false from rfl]; rfl
    rw [hs1, hs2]
    generalize unitsOf (rungOf r) = A at *
    generalize unitsOf 9218868437227405311 = B at *
    rw [cmp_int]
    by_cases d : (A : Int) < B
    · rw [if_pos d]
      rfl
    · rw [if_neg d, if_pos (by omega)]
      rfl
theorem nanQ_low {r : Nat} (h : low r) : nanQ r = false := by
  have h1 := h.1
  unfold nanQ
  rw [f64_double, order_self r (by omega)]
  rfl
theorem canonZ_low {r : Nat} (h : low r) : canonZ (some r) = (r : Int) := canon_low r h.1
theorem floorV_low {o : Option Nat} (ho : ∀ r, o = some r → low r) : ∀ w, floorV o = some w → low w := by
  intro w hw
  cases o with
  | none => exact absurd hw (by simp [floorV])
  | some r =>
    have hr := ho r rfl
    unfold floorV at hw
    dsimp only at hw
    by_cases c : bigQ r = true
    · rw [if_pos c] at hw
      injection hw with hw
      exact hw ▸ hr
    · rw [if_neg c, if_neg (by rw [nanQ_low hr]; decide)] at hw
      exact add_low hw
theorem canonZ_range {o : Option Nat} (ho : ∀ r, o = some r → low r) : 0 ≤ canonZ o ∧ canonZ o < 18446744073709551616 := by
  cases o with
  | none => exact ⟨by decide, by decide⟩
  | some r =>
    rw [canonZ_low (ho r rfl)]
    have := (ho r rfl).2
    omega
theorem l2floor_some (o : Option Nat) (ho : ∀ r, o = some r → low r) (k : Nat) (hk : 1300000 ≤ k) : spec_l2FloorOf.f k (canonZ o) = some (canonZ (floorV o)) := by
  obtain ⟨k, rfl⟩ : ∃ m, k = m + 1 := ⟨k - 1, by omega⟩
  have hi := hiR
  cases o with
  | none =>
    show spec_l2FloorOf.f (k + 1) 9221120237041090560 = some 9221120237041090560
    unfold spec_l2FloorOf.f
    rw [nan_some _ (by decide) (by decide), Option.bind_some, if_pos (by decide), spec_l2FloorOf.j0, if_pos rfl]
  | some r =>
    have hr := ho r rfl
    have hr1 := hr.1
    have hr2 := hr.2
    have x0 : (0 : Int) ≤ (r : Int) := by omega
    have x1 : (r : Int) < 18446744073709551616 := by omega
    rw [canonZ_low hr]
    unfold spec_l2FloorOf.f
    rw [nan_some _ x0 x1, inf_some _ x0 x1, Int.toNat_natCast, Option.bind_some, if_neg (by simp; omega), Option.bind_some]
    unfold floorV
    dsimp only
    rw [bigQ_eq hr]
    by_cases c : rungOf r = infR
    · rw [decide_eq_true c, spec_l2FloorOf.j0, if_pos rfl, if_pos rfl, canonZ_low hr]
    · rw [decide_eq_false c, spec_l2FloorOf.j0, if_neg (by decide), if_neg (by decide), if_neg (by rw [nanQ_low hr]; decide)]
      have fr : rungOf r < infR := by omega
      show _ = some (canonZ (double.add (flo r) 0))
      rw [add_zero_flo r fr, neg_some _ x0 x1, Option.bind_some]
      obtain ⟨la, a1, a2, a3⟩ := units_some (r : Int) x0 x1 (by rw [Int.toNat_natCast]; exact fr) k (by omega)
      rw [Int.toNat_natCast] at a2
      rw [Int.toNat_natCast, a1, Option.bind_some]
      obtain ⟨b1, t1, c1, c2, c3, c4⟩ := big_some (negOf r) la _ a2 (by omega) k (by omega)
      obtain ⟨lo, o1, o2, o3⟩ := one_some k (by omega)
      obtain ⟨b2, t2, d1, d2, d3, d4⟩ := big_some false lo _ o2 (by omega) k (by omega)
      have hp : (0 : Int) < 2 ^ 1074 := p2_pos _
      have hb2 : b2 = false := by
        unfold sgn at d4
        generalize (2 : Int) ^ 1074 = X at *
        cases b2
        · rfl
        · simp at d4
          omega
      subst hb2
      obtain ⟨q, t, b, rr, g1, g2, g3, g4⟩ := floor_some b1 t1 t2 _ _ c2 d2 hp (by omega) (by omega) k (by omega)
      rw [c1, Option.bind_some, o1, Option.bind_some, d1, Option.bind_some]
      dsimp only
      rw [g1, Option.bind_some]
      dsimp only
      have gone : Good [(1 : Int)] 1 := ⟨fun x hx => by rw [List.mem_singleton.1 hx]; decide, fun x hx => by simp at hx; omega, rfl⟩
      have ht : t.length ≤ 1000 := Nat.le_trans g3 (by decide)
      rw [round_some q t [1] _ 1 g2 gone (by decide) ht (by simp), Option.bind_some]
      congr 1
      have hdiv : (unitsOf r : Int) / 2 ^ 1074 = ((unitsOf r / 2 ^ 1074 : Nat) : Int) := (congrArg (fun z => (unitsOf r : Int) / z) (nat_pow_int 1074).symm).trans (Int.natCast_ediv _ _).symm
      have hmod : (unitsOf r : Int) % 2 ^ 1074 = ((unitsOf r % 2 ^ 1074 : Nat) : Int) := (congrArg (fun z => (unitsOf r : Int) % z) (nat_pow_int 1074).symm).trans (Int.natCast_emod _ _).symm
      have hK : (unitsOf r : Int) / 2 ^ 1074 + ((b1 && decide ((unitsOf r : Int) % 2 ^ 1074 ≠ 0)).toNat : Int) = (floK r : Int) ∧ (floK r ≠ 0 → b1 = negOf r) := by
        rw [hdiv, hmod]
        unfold floK
        clear hp hdiv hmod d2 d4 o2 g2 g4
        generalize (2 : Nat) ^ 1074 = X
        refine floK_eq (unitsOf r) X b1 (negOf r) fun u0 => ?_
        unfold sgn at c4
        have hu1 : (0 : Int) < (unitsOf r : Int) := Int.natCast_pos.2 (Nat.pos_of_ne_zero u0)
        generalize (unitsOf r : Int) = uu at c4 hu1
        cases b1 <;> cases hn : negOf r <;> rw [hn] at c4 <;> first | rfl | (exfalso; simp at c4; omega)
      rw [g4, hK.1]
      by_cases k0 : floK r = 0
      · rw [if_pos k0, k0, show ((b1 && decide (((0 : Nat) : Int) ≠ 0))) = false by simp]
      · rw [if_neg k0, hK.2 k0, decide_eq_true (show ((floK r : Int) ≠ 0) by omega), Bool.and_true]
def flipN (y : Nat) : Nat := if 9223372036854775808 ≤ y then y - 9223372036854775808 else y + 9223372036854775808
theorem flip_facts (y : Nat) (h : y < 18446744073709551616) : flipN y < 18446744073709551616 ∧ double.read (flipN y) = (double.read y).opposite := by
  have e1 : rungOf (flipN y) = rungOf y := by unfold flipN rungOf; split <;> omega
  have e2 : negOf (flipN y) = !negOf y := by
    unfold flipN negOf
    by_cases c : 9223372036854775808 ≤ y
    · rw [if_pos c, show (y - 9223372036854775808) / 9223372036854775808 = 0 by omega, show y / 9223372036854775808 = 1 by omega]
      rfl
    · rw [if_neg c, show (y + 9223372036854775808) / 9223372036854775808 = 1 by omega, show y / 9223372036854775808 = 0 by omega]
      rfl
  refine ⟨by unfold flipN; split <;> omega, ?_⟩
  rw [read_eq, read_eq, e1, e2]
  by_cases c1 : rungOf y < 4503599627370496
  · rw [if_pos c1, if_pos c1]; rfl
  rw [if_neg c1, if_neg c1]
  by_cases c2 : rungOf y < infR
  · rw [if_pos c2, if_pos c2]; rfl
  rw [if_neg c2, if_neg c2]
  by_cases c3 : rungOf y = infR
  · rw [if_pos c3, if_pos c3]; rfl
  rw [if_neg c3, if_neg c3]
  rfl
theorem sub_add (x y : Nat) (h : y < 18446744073709551616) : double.sub x y = double.add x (flipN y) := by
  unfold Format.sub Format.add
  rw [(flip_facts y h).2]
theorem xor_nat (y : Nat) (h : y < 18446744073709551616) : (y ^^^ 9223372036854775808) = flipN y := by
  have e63 : (9223372036854775808 : Nat) = 2 ^ 63 := by decide
  refine Nat.eq_of_testBit_eq fun i => ?_
  rw [Nat.testBit_xor, e63, Nat.testBit_two_pow]
  unfold flipN
  by_cases c : 9223372036854775808 ≤ y
  · rw [if_pos c, show y - 9223372036854775808 = y % 2 ^ 63 by omega, Nat.testBit_mod_two_pow]
    rcases Nat.lt_trichotomy i 63 with hi | hi | hi
    · rw [decide_eq_false (show ¬ (63 = i) by omega), decide_eq_true hi]
      simp
    · subst hi
      have : y.testBit 63 = true := by
        rw [Nat.testBit_eq_decide_div_mod_eq, show y / 2 ^ 63 = 1 by omega]
        rfl
      rw [this]
      rfl
    · rw [decide_eq_false (show ¬ (63 = i) by omega), decide_eq_false (show ¬ (i < 63) by omega), Nat.testBit_lt_two_pow (Nat.lt_of_lt_of_le h (Nat.pow_le_pow_right (n := 2) (by decide) (show 64 ≤ i by omega)))]
      rfl
  · rw [if_neg c, show y + 9223372036854775808 = 2 ^ 63 * 1 + y by omega, Nat.two_pow_add_eq_or_of_lt (i := 63) (b := y) (by omega) 1, Nat.mul_one, Nat.testBit_or, Nat.testBit_two_pow]
    by_cases hi : 63 = i
    · subst hi
      rw [Nat.testBit_lt_two_pow (show y < 2 ^ 63 by omega)]
      rfl
    · rw [decide_eq_false hi]
      simp
theorem xor_flip (y : Nat) (h : y < 18446744073709551616) : Go.bits .xor .u64 (y : Int) 9223372036854775808 = (flipN y : Int) := by
  have h2 : (BitVec.ofInt 64 (y : Int)).toNat = y := by
    rw [BitVec.ofInt_natCast, BitVec.toNat_ofNat]; exact Nat.mod_eq_of_lt (by omega)
  show IntKind.u64.wrap ((BitVec.ofInt 64 (y : Int) ^^^ BitVec.ofInt 64 9223372036854775808).toNat : Int) = _
  have h3 := xor_nat y h
  rw [BitVec.toNat_xor, h2, show (BitVec.ofInt 64 9223372036854775808 : BitVec 64).toNat = 9223372036854775808 from by decide, h3, IntKind.wrap_u64]
  have := (flip_facts y h).1
  omega
theorem zero_order (y : Nat) : (FloatKind.f64.format.order y 0 == some .eq) = decide (rungOf y = 0) := by
  have hz : rungOf 0 = 0 := rfl
  have hi := hiR
  rw [f64_double]
  by_cases n : infR < rungOf y
  · rw [order_nan _ _ (Or.inl n), decide_eq_false (by omega)]
    rfl
  by_cases i : rungOf y = infR
  · rw [order_if _ _ i (by rw [hz, hi]; decide), decide_eq_false (by omega)]
    cases negOf y <;> rfl
  rw [order_fin _ _ (by omega) (by rw [hz, hi]; decide)]
  have hs0 : sUnits 0 = 0 := by decide
  rw [hs0]
  by_cases z : rungOf y = 0
  · have hu := (units_zero y).2 z
    have hs : sUnits y = 0 := by unfold sUnits; rw [hu]; cases negOf y <;> rfl
    rw [hs, decide_eq_true z]
    rfl
  · have hu : unitsOf y ≠ 0 := fun h => z ((units_zero y).1 h)
    have hs : sUnits y ≠ 0 := by
      unfold sUnits
      cases negOf y
      · rw [if_neg (by decide)]; omega
      · rw [if_pos rfl]; omega
    rw [decide_eq_false z, cmp_int]
    by_cases c : sUnits y < 0
    · rw [if_pos c]; rfl
    · rw [if_neg c, if_neg hs]; rfl
theorem nanK : nanLike 9221120237041090560 := ⟨by decide, by decide⟩
theorem spec_op (a0 a1 a2 : Int) (h10 : 0 ≤ a1) (h11 : a1 < 18446744073709551616) (h20 : 0 ≤ a2) (h21 : a2 < 18446744073709551616) (k : Nat) (hk : 1400000 ≤ k) : spec_FloatOp.f k a0 a1 a2 = impl_FloatOp.f a0 a1 a2 := by
  obtain ⟨k, rfl⟩ : ∃ m, k = m + 1 := ⟨k - 1, by omega⟩
  have hi := hiR
  have hx : a1.toNat < 18446744073709551616 := by omega
  have hy : a2.toNat < 18446744073709551616 := by omega
  unfold spec_FloatOp.f impl_FloatOp.f
  by_cases c1 : a0 < 1
  · rw [if_pos c1, if_pos (Or.inl c1), spec_FloatOp.j0, if_pos rfl]
  rw [if_neg c1]
  by_cases c2 : 6 < a0
  · rw [if_pos (Or.inr c2), decide_eq_true (show a0 > 6 from c2), spec_FloatOp.j0, if_pos rfl]
  rw [if_neg (show ¬ (a0 < 1 ∨ 6 < a0) by omega), decide_eq_false (show ¬ (a0 > 6) from c2), spec_FloatOp.j0, if_neg (by decide), zero_order]
  by_cases e1 : a0 = 1
  · subst e1
    rw [if_pos rfl, if_neg (by omega), l2sum_some a1 a2 h10 h11 h20 h21 k (by omega)]
    rfl
  rw [if_neg e1]
  by_cases e2 : a0 = 2
  · subst e2
    rw [if_pos rfl, if_neg (by omega), nan_some a2 h20 h21, Option.bind_some]
    show _ = some (canonZ (double.sub a1.toNat a2.toNat), 0)
    by_cases n : infR < rungOf a2.toNat
    · rw [if_pos (decide_eq_true n), show double.sub a1.toNat a2.toNat = none from sub_nan _ ⟨hy, n⟩]
      rfl
    · have hf := flip_facts _ hy
      have hb : Go.bits .xor .u64 a2 9223372036854775808 = ((flipN a2.toNat : Nat) : Int) := by
        rw [← xor_flip _ hy, Int.toNat_of_nonneg h20]
      rw [if_neg (by simpa using n), sub_add _ _ hy, hb, l2sum_some a1 _ h10 h11 (by omega) (by omega) k (by omega), Int.toNat_natCast]
      rfl
  rw [if_neg e2]
  by_cases e3 : a0 = 3
  · subst e3
    rw [if_pos rfl, if_neg (by omega), l2times_some a1 a2 h10 h11 h20 h21 k (by omega)]
    rfl
  rw [if_neg e3, zero_some a2 h20 h21, Option.bind_some]
  by_cases z : rungOf a2.toNat = 0
  · rw [if_pos (decide_eq_true z), if_pos ⟨by omega, decide_eq_true z⟩]
  rw [if_neg (by simpa using z), if_neg (fun h => z (of_decide_eq_true h.2)), l2over_some a1 a2 h10 h11 h20 h21 z k (by omega), Option.bind_some]
  by_cases e4 : a0 = 4
  · subst e4
    rw [if_pos rfl]
    rfl
  rw [if_neg e4]
  have hlow : ∀ r, double.div a1.toNat a2.toNat = some r → low r := fun r h => div_low h
  rw [l2floor_some _ hlow k (by omega), Option.bind_some]
  by_cases e5 : a0 = 5
  · subst e5
    rw [if_pos rfl]
    rfl
  obtain rfl : a0 = 6 := by omega
  rw [if_neg e5]
  show _ = some (canonZ ((floorV (double.div a1.toNat a2.toNat)).bind fun f => (double.mul a2.toNat f).bind fun p => double.sub a1.toNat p), 0)
  have hflow := floorV_low hlow
  generalize floorV (double.div a1.toNat a2.toNat) = o at *
  have hr := canonZ_range hflow
  rw [l2times_some a2 (canonZ o) h20 h21 hr.1 hr.2 k (by omega), Option.bind_some]
  have hm : double.mul a2.toNat (canonZ o).toNat = o.bind fun f => double.mul a2.toNat f := by
    cases o with
    | none => exact mul_nan _ nanK
    | some f =>
      rw [canonZ_low (hflow f rfl), Int.toNat_natCast]
      rfl
  have hplow : ∀ r, double.mul a2.toNat (canonZ o).toNat = some r → low r := fun r h => mul_low h
  have hbind : (o.bind fun f => (double.mul a2.toNat f).bind fun p => double.sub a1.toNat p) = (double.mul a2.toNat (canonZ o).toNat).bind fun p => double.sub a1.toNat p := by
    rw [hm, Option.bind_assoc]
  rw [hbind]
  generalize double.mul a2.toNat (canonZ o).toNat = o2 at *
  have hr2 := canonZ_range hplow
  rw [nan_some _ hr2.1 hr2.2, Option.bind_some]
  cases o2 with
  | none =>
    rw [if_pos (by decide)]
    rfl
  | some p =>
    have hp := hplow p rfl
    rw [canonZ_low hp, Int.toNat_natCast, if_neg (by have := hp.1; simp; omega), xor_flip p hp.2]
    have hf := flip_facts p hp.2
    rw [l2sum_some a1 _ h10 h11 (by omega) (by omega) k (by omega), Int.toNat_natCast, Option.bind_some, Option.bind_some, sub_add _ _ hp.2]
end Go.Proofs.Ytghjbadanhplnaa.PF
namespace Go.Proofs.Ytghjbadanhplnaa.Pure
open Go.RowKit Go.Proofs.Ytghjbadanhplnaa.PF Go.Proofs.YtghjbadanhplnaaW.PrintWords Go.Proofs.YtghjbadanhplnaaW.PrintLast
theorem FnExactFloatOp : laws_FnExactFloatOp.Pure := by
  intro a0 a1 a2 w0 w1 w2
  have m1 : IntKind.u64.min = 0 := rfl
  have m2 : IntKind.u64.max = 18446744073709551615 := rfl
  simp only [Lit.wf, Bool.and_eq_true, decide_eq_true_eq] at w1 w2
  have h1 : 0 ≤ a1 ∧ a1 < 18446744073709551616 := by omega
  have h2 : 0 ≤ a2 ∧ a2 < 18446744073709551616 := by omega
  refine ⟨1400000, ?_⟩
  unfold laws_FnExactFloatOp.f
  rw [spec_op a0 a1 a2 h1.1 h1.2 h2.1 h2.2 _ (Nat.le_refl _)]
  obtain ⟨r1, r2, e⟩ : ∃ r1 r2, impl_FloatOp.f a0 a1 a2 = some (r1, r2) := by
    unfold impl_FloatOp.f
    split
    · exact ⟨_, _, rfl⟩
    · split <;> exact ⟨_, _, rfl⟩
  rw [e, Option.bind_some, Option.bind_some, if_pos rfl, if_pos rfl]
end Go.Proofs.Ytghjbadanhplnaa.Pure
