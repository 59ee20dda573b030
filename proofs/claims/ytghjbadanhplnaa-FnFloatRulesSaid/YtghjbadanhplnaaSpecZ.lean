/- The reference's sum, product and quotient of doubles are IEEE's. Plain law; no condition beyond those of the theorems. -/
import Derived.Test.YtghjbadanhplnaaArithY
import Derived.Test.YtghjbadanhplnaaPHx1
import Derived.Test.YtghjbadanhplnaaPHx2
import Derived.Test.YtghjbadanhplnaaPureFnExactFloatCmp
namespace Go.Proofs.Ytghjbadanhplnaa.PF
open Go.RowKit Go.Proofs.YtghjbadanhplnaaW.PrintWords Go.Proofs.YtghjbadanhplnaaW.PrintLast Go.Proofs.YtghjbadanhplnaaW.PrintMore Go.Proofs.Ytghjbadanhplnaa.Limb Go.Proofs.Ytghjbadanhplnaa.Ord Go.Proofs.Ytghjbadanhplnaa.Pure
open Ieee
set_option linter.unusedVariables false
set_option linter.unusedSimpArgs false

theorem hiR : infR = 9218868437227405312 := rfl
theorem okNum_of {l : List Int} {v : Int} (h : Good l v) (hx : l.length ≤ 1000) : okNum l = true := by
  unfold okNum
  simp only [Bool.and_eq_true, decide_eq_true_eq, List.all_eq_true, bne_iff_ne, ne_eq]
  refine ⟨⟨fun x hx => h.1 x hx, fun hz => ?_⟩, hx⟩
  exact h.2.1 0 (Option.mem_def.2 hz) rfl
theorem round_some (neg : Bool) (a b : List Int) (N D : Int) (ha : Good a N) (hb : Good b D) (hD : 0 < D) (hx : a.length ≤ 1000) (hy : b.length ≤ 1000) : spec_l2Round.f neg a b = some (RWw neg (N * 2 ^ 1074) D) := by
  unfold spec_l2Round.f
  rw [if_pos ⟨okNum_of ha hx, okNum_of hb hy, fun e => by
    have := (good_len hb).1 (by rw [e]; rfl)
    omega⟩, ha.2.2, hb.2.2]
theorem one_some (k : Nat) (hk : 200000 ≤ k) : ∃ l, spec_l2One.f k = some l ∧ Good l (2 ^ 1074) ∧ l.length ≤ 40 := by
  have g1 : Good [(1 : Int)] 1 := ⟨fun x hx => by rw [List.mem_singleton.1 hx]; decide, fun x hx => by simp at hx; omega, rfl⟩
  obtain ⟨r, e1, e2, e3⟩ := shl_some [1] 1 1074 g1 (by simp) (by omega) k (by omega)
  rw [Int.one_mul] at e2
  unfold spec_l2One.f
  rw [show spec_l1ShlMag.f k [1] 1074 = some r from e1]
  exact ⟨r, rfl, e2, by simp at e3; omega⟩
theorem RW_parts (neg : Bool) (M D : Int) (h0 : 0 ≤ M) (hD : 0 < D) : ∃ r : Nat, r ≤ infR ∧ (r : Int) = min ((eOf M D : Int) * 4503599627370496 + halfUp M (D * 2 ^ eOf M D)) 9218868437227405312 ∧ RWw neg M D = wordOf neg (r : Int) := by
  have h1 := halfUp_nonneg (n := M) (d := D * 2 ^ eOf M D) h0 (Int.mul_pos hD (p2_pos _))
  unfold RWw
  generalize halfUp M (D * 2 ^ eOf M D) = h at *
  generalize eOf M D = E
  refine ⟨(min ((E : Int) * 4503599627370496 + h) 9218868437227405312).toNat, ?_, ?_, ?_⟩
  · rw [hiR]
    omega
  · omega
  · congr 1
    omega
theorem word_facts (neg : Bool) (r w : Nat) (h : r ≤ infR) (e : (w : Int) = wordOf neg (r : Int)) : negOf w = neg ∧ rungOf w = r ∧ w < 18446744073709551616 := by
  rw [hiR] at h
  unfold wordOf at e
  unfold negOf rungOf
  cases neg with
  | true =>
    rw [if_pos rfl] at e
    have e2 : w = r + 9223372036854775808 := by omega
    rw [e2]
    refine ⟨?_, by omega, by omega⟩
    rw [show (r + 9223372036854775808) / 9223372036854775808 = 1 by omega]
    rfl
  | false =>
    rw [if_neg (by decide)] at e
    have e2 : w = r := by omega
    rw [e2]
    refine ⟨?_, by omega, by omega⟩
    rw [show r / 9223372036854775808 = 0 by omega]
    rfl
theorem canon_low (w : Nat) (h : rungOf w ≤ infR) : canonW w = (w : Int) := by
  unfold canonW nanQ
  rw [f64_double, order_self w (by omega), if_neg (by decide)]
theorem canon_RW (neg : Bool) (M D : Int) (h0 : 0 ≤ M) (hD : 0 < D) (w : Nat) (e : (w : Int) = RWw neg M D) : canonW w = RWw neg M D := by
  obtain ⟨r, r1, _, r3⟩ := RW_parts neg M D h0 hD
  rw [r3] at e
  obtain ⟨_, f2, _⟩ := word_facts neg r w r1 e
  rw [canon_low w (by omega), e, r3]
theorem inf_word (a : Nat) (ha : a < 18446744073709551616) (h : rungOf a = infR) : double.word (negOf a) double.infRung = a := by
  rw [hiR] at h
  unfold Format.word negOf
  unfold rungOf at h
  rw [d_sign, d_inf]
  by_cases c : 9223372036854775808 ≤ a
  · rw [show a / 9223372036854775808 = 1 by omega]
    simp
    omega
  · rw [show a / 9223372036854775808 = 0 by omega]
    simp
    omega
theorem read_nan (w : Nat) (hw : infR < rungOf w) : double.read w = .nan (negOf w) (rungOf w - infR) := by
  rw [hiR] at hw
  rw [read_eq, if_neg (by omega), if_neg (by rw [hiR]; omega), if_neg (by rw [hiR]; omega)]
theorem add_nan (a b : Nat) (h : infR < rungOf a ∨ infR < rungOf b) : double.add a b = none := by
  unfold Format.add
  rcases h with h | h
  · rw [read_nan a h]
    rfl
  · rw [read_nan b h]
    cases double.read a <;> rfl
theorem add_ii (a b : Nat) (ha : a < 18446744073709551616) (h1 : rungOf a = infR) (h2 : rungOf b = infR) : double.add a b = if negOf a = negOf b then some a else none := by
  unfold Format.add
  rw [read_inf a h1, read_inf b h2]
  unfold Datum.sum
  dsimp only
  by_cases c : negOf a = negOf b
  · rw [if_pos c, if_pos c]
    show some (double.word (negOf a) double.infRung) = _
    rw [inf_word a ha h1]
  · rw [if_neg c, if_neg c]
    rfl
theorem add_if (a b : Nat) (ha : a < 18446744073709551616) (h1 : rungOf a = infR) (h2 : rungOf b < infR) : double.add a b = some a := by
  obtain ⟨n, q, e2, u2⟩ := read_fin b h2
  unfold Format.add
  rw [read_inf a h1, e2]
  show some (double.word (negOf a) double.infRung) = _
  rw [inf_word a ha h1]
theorem add_fi (a b : Nat) (hb : b < 18446744073709551616) (h1 : rungOf a < infR) (h2 : rungOf b = infR) : double.add a b = some b := by
  obtain ⟨n, q, e2, u2⟩ := read_fin a h1
  unfold Format.add
  rw [read_inf b h2, e2]
  show some (double.word (negOf b) double.infRung) = _
  rw [inf_word b hb h2]
theorem big_neg (neg : Bool) (l : List Int) (k : Nat) (b : Bool) (t : List Int) (h : spec_l1Big.f k neg l = some (b, t)) (ht : t = []) : b = false := by
  unfold spec_l1Big.f at h
  obtain ⟨t1, e1, h⟩ := Option.bind_eq_some_iff.1 h
  by_cases c : neg = true
  · rw [if_pos c] at h
    injection h with h
    injection h with h1 h2
    subst h2
    rw [← h1, ht]
    rfl
  · rw [if_neg c] at h
    injection h with h
    injection h with h1 h2
    exact h1.symm
theorem sum_some2 (a0 : Bool) (la : List Int) (u : Int) (b0 : Bool) (lb : List Int) (v : Int) (ha : Good la u) (hb : Good lb v) (hx : la.length ≤ 10000) (hy : lb.length ≤ 10000) (k : Nat) (hk : 1100000 ≤ k) :
    ∃ b t w, spec_l1Sum.f k a0 la b0 lb = some (b, t) ∧ Good t w ∧ t.length ≤ max la.length lb.length + 1 ∧ sgn b w = sgn a0 u + sgn b0 v := by
  have hu := good_pos ha
  have hv := good_pos hb
  unfold spec_l1Sum.f
  by_cases e : a0 = b0
  · subst e
    rw [if_pos (by simp)]
    obtain ⟨r, e1, e2, e3⟩ := add_some la lb u v ha hb (by omega) (by omega) k (by omega)
    obtain ⟨b, t, e4, e5, e6, e7⟩ := big_some a0 r (u + v) e2 (by omega) k hk
    rw [e1, Option.bind_some, e4, Option.bind_some]
    refine ⟨b, t, u + v, rfl, e5, by omega, ?_⟩
    rw [e7]
    cases a0 <;> simp [sgn] <;> omega
  · rw [if_neg (by simpa using e)]
    obtain ⟨c, e1, e2⟩ := cmp_some la lb u v (by omega) (by omega) ha hb k (by omega)
    rw [e1, Option.bind_some]
    by_cases hc : c ≥ 0
    · rw [if_pos hc]
      obtain ⟨r, e3, e4, e5⟩ := sub_some la lb u v ha hb (by omega) (by omega) k (by omega)
      obtain ⟨b, t, e6, e7, e8, e9⟩ := big_some a0 r (u - v) e4 (by omega) k hk
      rw [e3, Option.bind_some, e6, Option.bind_some]
      refine ⟨b, t, u - v, rfl, e7, by omega, ?_⟩
      rw [e9]
      cases a0 <;> cases b0 <;> simp [sgn] at e ⊢ <;> omega
    · rw [if_neg hc]
      obtain ⟨r, e3, e4, e5⟩ := sub_some lb la v u hb ha (by omega) (by omega) k (by omega)
      obtain ⟨b, t, e6, e7, e8, e9⟩ := big_some b0 r (v - u) e4 (by omega) k hk
      rw [e3, Option.bind_some, e6, Option.bind_some]
      refine ⟨b, t, v - u, rfl, e7, by omega, ?_⟩
      rw [e9]
      cases a0 <;> cases b0 <;> simp [sgn] at e ⊢ <;> omega
theorem sgn_sUnits (w : Nat) : sgn (negOf w) (unitsOf w : Int) = sUnits w := rfl
theorem l2sum_some (a b : Int) (ha0 : 0 ≤ a) (ha1 : a < 18446744073709551616) (hb0 : 0 ≤ b) (hb1 : b < 18446744073709551616) (k : Nat) (hk : 1200000 ≤ k) : spec_l2Sum.f k a b = some (canonZ (double.add a.toNat b.toNat)) := by
  obtain ⟨k, rfl⟩ : ∃ m, k = m + 1 := ⟨k - 1, by omega⟩
  have hxa : a.toNat < 18446744073709551616 := by omega
  have hxb : b.toNat < 18446744073709551616 := by omega
  unfold spec_l2Sum.f
  rw [nan_some a ha0 ha1, Option.bind_some]
  by_cases na : infR < rungOf a.toNat
  · rw [if_pos (decide_eq_true na), add_nan _ _ (Or.inl na), spec_l2Sum.j0, if_pos rfl]
    rfl
  rw [if_neg (by simpa using na), nan_some b hb0 hb1, Option.bind_some]
  by_cases nb : infR < rungOf b.toNat
  · rw [if_pos (decide_eq_true nb), add_nan _ _ (Or.inr nb), spec_l2Sum.j0, if_pos rfl]
    rfl
  rw [if_neg (by simpa using nb), inf_some a ha0 ha1, Option.bind_some]
  by_cases ia : rungOf a.toNat = infR
  · rw [if_pos (decide_eq_true ia), inf_some b hb0 hb1, Option.bind_some]
    by_cases ib : rungOf b.toNat = infR
    · rw [if_pos (decide_eq_true ib), add_ii _ _ hxa ia ib]
      have hsame : (negOf a.toNat = negOf b.toNat) ↔ a = b := by
        refine ⟨fun h => ?_, fun h => by rw [h]⟩
        have h1 := inf_word _ hxa ia
        have h2 := inf_word _ hxb ib
        rw [h] at h1
        omega
      by_cases e : a = b
      · rw [show (a != b) = false by simp [e], spec_l2Sum.j0, if_neg (by decide), inf_some a ha0 ha1, Option.bind_some, if_pos (decide_eq_true ia), if_pos (hsame.2 e)]
        show some a = some (canonW a.toNat)
        rw [canon_low _ (by omega), Int.toNat_of_nonneg ha0]
      · rw [show (a != b) = true by simp [e], spec_l2Sum.j0, if_pos rfl, if_neg (fun h => e (hsame.1 h))]
        rfl
    · rw [if_neg (by simpa using ib), add_if _ _ hxa ia (by omega), spec_l2Sum.j0, if_neg (by decide), inf_some a ha0 ha1, Option.bind_some, if_pos (decide_eq_true ia)]
      show some a = some (canonW a.toNat)
      rw [canon_low _ (by omega), Int.toNat_of_nonneg ha0]
  rw [if_neg (by simpa using ia), spec_l2Sum.j0, if_neg (by decide), inf_some a ha0 ha1, Option.bind_some, if_neg (by simpa using ia), inf_some b hb0 hb1, Option.bind_some]
  by_cases ib : rungOf b.toNat = infR
  · rw [if_pos (decide_eq_true ib), add_fi _ _ hxb (by omega) ib]
    show some b = some (canonW b.toNat)
    rw [canon_low _ (by omega), Int.toNat_of_nonneg hb0]
  rw [if_neg (by simpa using ib)]
  have fa : rungOf a.toNat < infR := by omega
  have fb : rungOf b.toNat < infR := by omega
  obtain ⟨r, hr, er⟩ := add_fin _ _ fa fb
  rw [hr]
  show _ = some (canonW r)
  rw [canon_RW _ _ _ (by omega) (by decide) r er]
  obtain ⟨la, a1, a2, a3⟩ := units_some a ha0 ha1 fa k (by omega)
  obtain ⟨ba, ta, c1, c2, c3, c4⟩ := big_some (negOf a.toNat) la _ a2 (by omega) k (by omega)
  obtain ⟨lb, b1, b2, b3⟩ := units_some b hb0 hb1 fb k (by omega)
  obtain ⟨bb, tb, d1, d2, d3, d4⟩ := big_some (negOf b.toNat) lb _ b2 (by omega) k (by omega)
  obtain ⟨bs, ts, v, s1, s2, s3, s4⟩ := sum_some2 ba ta _ bb tb _ c2 d2 (by omega) (by omega) k (by omega)
  rw [neg_some a ha0 ha1, Option.bind_some, a1, Option.bind_some, c1, Option.bind_some, neg_some b hb0 hb1, Option.bind_some, b1, Option.bind_some, d1, Option.bind_some]
  rw [s1, Option.bind_some]
  rw [c4, d4, sgn_sUnits, sgn_sUnits] at s4
  have hv := good_pos s2
  generalize hS : sUnits a.toNat + sUnits b.toNat = S at *
  by_cases hz : v = 0
  · have hl := (good_len s2).2 hz
    have hS0 : S = 0 := by
      rw [← s4, hz]
      cases bs <;> rfl
    rw [if_pos (by rw [hl]; rfl), if_pos hS0, hS0, show ((Int.natAbs 0 : Nat) : Int) = 0 from rfl, RWw_zero _ _ (by decide)]
    cases hna : negOf a.toNat with
    | true => rw [Option.bind_some, if_pos rfl, Option.bind_some, set_some _ 0 (by decide) (by decide)]; rfl
    | false => rw [Option.bind_some, if_neg (by decide), set_some _ 0 (by decide) (by decide)]; rfl
  · have hl : ¬ ((ts.length : Int) = 0) := fun h => hz ((good_len s2).1 (by omega))
    obtain ⟨lo, o1, o2, o3⟩ := one_some k (by omega)
    have hts : ts.length ≤ 1000 := by omega
    rw [if_neg hl, o1, Option.bind_some, round_some bs ts lo v (2 ^ 1074) s2 o2 (p2_pos _) hts (by omega), Option.bind_some]
    have e1 := RWw_scale bs v 1 (2 ^ 1074) (p2_pos _)
    rw [Int.one_mul] at e1
    rw [e1]
    unfold sgn at s4
    cases bs with
    | true =>
      rw [if_pos rfl] at s4
      rw [if_neg (by omega), decide_eq_true (by omega), show ((S.natAbs : Nat) : Int) = v by omega]
    | false =>
      rw [if_neg (by decide)] at s4
      rw [if_neg (by omega), decide_eq_false (by omega), show ((S.natAbs : Nat) : Int) = v by omega]
end Go.Proofs.Ytghjbadanhplnaa.PF
