/- Drawn floats keep the rules. Plain law; no condition. -/
import Derived.Test.YtghjbadanhplnaaRuleZ
import Derived.Test.YtghjbadanhplnaaDrawF
import Derived.Test.YtghjbadanhplnaaPHx4
namespace Go.Proofs.Ytghjbadanhplnaa.PF
open Go.RowKit Go.Proofs.Ytghjbadanhplnaa.Pure Go.Proofs.Ytghjbadanhplnaa.Ord Go.Proofs.Ytghjbadanhplnaa.Limb Go.Proofs.YtghjbadanhplnaaW.PrintWords Go.Proofs.YtghjbadanhplnaaW.PrintLast
open Ieee
set_option linter.unusedVariables false
set_option linter.unusedSimpArgs false

def u64R (x : Int) : Prop := 0 ≤ x ∧ x < 18446744073709551616
theorem RW_range (neg : Bool) (M D : Int) (h0 : 0 ≤ M) (hD : 0 < D) : u64R (RWw neg M D) := by
  obtain ⟨r, r1, _, r3⟩ := RW_parts neg M D h0 hD
  rw [r3]
  have hi := hiR
  unfold wordOf u64R
  split <;> omega
theorem big_ex (neg : Bool) (l : List Int) (hl : okL l) (hx : l.length ≤ 2) (k : Nat) (hk : 1100000 ≤ k) : ∃ b t, spec_l1Big.f k neg l = some (b, t) ∧ Good t (valL l) ∧ t.length ≤ 2 := by
  obtain ⟨t, e1, e2, e3⟩ := trim_some l (by omega) hl k (by omega)
  unfold spec_l1Big.f
  rw [e1, Option.bind_some]
  by_cases c : neg = true
  · rw [if_pos c]
    exact ⟨_, t, rfl, e2, by omega⟩
  · rw [if_neg c]
    exact ⟨_, t, rfl, e2, by omega⟩
theorem bigOf_ex (x : Int) (k : Nat) (hk : 1100000 ≤ k) : ∃ b t v, spec_BigOf.f k x = some (b, t) ∧ Good t v ∧ t.length ≤ 2 := by
  unfold spec_BigOf.f
  by_cases c : x < 0
  · rw [if_pos c]
    obtain ⟨b, t, e1, e2, e3⟩ := big_ex (decide (x < 0)) [(Go.bits .and .u64 (IntKind.u64.wrap (-(IntKind.u64.wrap (x)))) 4294967295) % 4294967296, ((IntKind.u64.wrap (-(IntKind.u64.wrap (x)))) / 4294967296) % 4294967296] (by
      intro y hy
      simp only [List.mem_cons, List.not_mem_nil, or_false] at hy
      rcases hy with rfl | rfl <;> omega) (by simp) k hk
    rw [e1]
    exact ⟨b, t, _, rfl, e2, e3⟩
  · rw [if_neg c]
    obtain ⟨b, t, e1, e2, e3⟩ := big_ex (decide (x < 0)) [(Go.bits .and .u64 (IntKind.u64.wrap (x)) 4294967295) % 4294967296, ((IntKind.u64.wrap (x)) / 4294967296) % 4294967296] (by
      intro y hy
      simp only [List.mem_cons, List.not_mem_nil, or_false] at hy
      rcases hy with rfl | rfl <;> omega) (by simp) k hk
    rw [e1]
    exact ⟨b, t, _, rfl, e2, e3⟩
theorem floatOfBig_ex (b : Bool) (l : List Int) (v : Int) (hl : Good l v) (hx : l.length ≤ 2) : ∃ x e, spec_FloatOfBig.f b l = some (x, e) ∧ u64R x := by
  have hok : ∃ t, spec_BigOk.f b l = some t := by
    unfold spec_BigOk.f
    by_cases c : (l.length : Int) = 0
    · rw [if_pos c]
      exact ⟨_, rfl⟩
    · rw [if_neg c, if_pos (by omega), wrap_in _ (by omega) (by omega), if_pos (by omega), if_pos (by omega)]
      exact ⟨_, rfl⟩
  obtain ⟨t, ht⟩ := hok
  unfold spec_FloatOfBig.f
  rw [ht, Option.bind_some]
  have gone : Good [(1 : Int)] 1 := ⟨fun x hx => by rw [List.mem_singleton.1 hx]; decide, fun x hx => by simp at hx; omega, rfl⟩
  cases t with
  | false => exact ⟨0, 1, rfl, by unfold u64R; omega⟩
  | true =>
    have hv := good_pos hl
    have hr := RW_range b (v * 2 ^ 1074) 1 (Int.mul_nonneg hv (Int.le_of_lt (p2_pos _))) (by decide)
    rw [if_pos rfl, round_some b l [1] v 1 hl gone (by decide) (by omega) (by simp), Option.bind_some]
    generalize RWw b (v * 2 ^ 1074) 1 = x at *
    rw [inf_some x hr.1 hr.2, Option.bind_some]
    by_cases c : decide (rungOf x.toNat = infR) = true
    · rw [if_pos c]
      exact ⟨0, 3, rfl, by unfold u64R; omega⟩
    · rw [if_neg c]
      exact ⟨x, 0, rfl, hr⟩
theorem op4_ex (a b : Int) (ha : u64R a) (hb : u64R b) (k : Nat) (hk : 1400000 ≤ k) : ∃ x e, spec_FloatOp.f k 4 a b = some (x, e) ∧ u64R x := by
  rw [spec_op 4 a b ha.1 ha.2 hb.1 hb.2 k hk]
  unfold impl_FloatOp.f
  rw [if_neg (by omega)]
  split
  · exact ⟨0, 2, rfl, by unfold u64R; omega⟩
  · refine ⟨_, 0, rfl, ?_⟩
    exact canonZ_range (o := double.div a.toNat b.toNat) (fun r h => div_low h)
theorem wrapU_range (x : Int) : u64R (IntKind.u64.wrap x) := by
  rw [IntKind.wrap_u64]
  unfold u64R
  omega
theorem float_some {L : List Int} {p : Int} (h : Rdr L p) (k : Nat) (hk : 1400000 ≤ k) : ∃ v p', spec_l2DrawFloat.f k L p = some (v, p') ∧ u64R v ∧ Rdr L p' := by
  obtain ⟨v, p1, e, v0, v1, h1⟩ := below_some h 8
  unfold spec_l2DrawFloat.f
  rw [e, Option.bind_some]
  dsimp only
  by_cases c0 : v = 0
  · obtain ⟨u, p2, e2, u0, u1, h2⟩ := below_some h1 10
    rw [if_pos c0, Option.bind_some, e2, Option.bind_some, if_pos u0, if_pos (by simp only [List.length_cons, List.length_nil]; omega)]
    refine ⟨_, _, rfl, ?_, h2⟩
    have hu : u = 0 ∨ u = 1 ∨ u = 2 ∨ u = 3 ∨ u = 4 ∨ u = 5 ∨ u = 6 ∨ u = 7 ∨ u = 8 ∨ u = 9 := by omega
    dsimp only
    unfold u64R
    rcases hu with rfl | rfl | rfl | rfl | rfl | rfl | rfl | rfl | rfl | rfl <;> decide
  rw [if_neg c0]
  by_cases c1 : v = 1
  · obtain ⟨u, p2, e2, hu, h2⟩ := word_some h1 k (by omega)
    rw [if_pos c1, e2, Option.bind_some]
    exact ⟨_, _, rfl, hu, h2⟩
  rw [if_neg c1]
  by_cases c2 : v = 2
  · obtain ⟨u, p2, e2, hu, h2⟩ := drawInt_some h1 k (by omega)
    obtain ⟨b, t, w, f1, f2, f3⟩ := bigOf_ex u k (by omega)
    obtain ⟨x, y, g1, g2⟩ := floatOfBig_ex b t w f2 f3
    rw [if_pos c2, e2, Option.bind_some]
    dsimp only
    rw [f1, Option.bind_some]
    dsimp only
    rw [g1, Option.bind_some]
    exact ⟨_, _, rfl, g2, h2⟩
  rw [if_neg c2]
  by_cases c3 : v = 3
  · obtain ⟨u, p2, e2, u0, u1, h2⟩ := below_some h1 48
    obtain ⟨s, p3, e3, s0, s1, h3⟩ := below_some h2 5
    rw [if_pos c3, e2, Option.bind_some]
    dsimp only
    rw [e3, Option.bind_some]
    exact ⟨_, _, rfl, wrapU_range _, h3⟩
  rw [if_neg c3]
  obtain ⟨u, p2, e2, u0, u1, h2⟩ := below_some h1 2000
  obtain ⟨b, t, w, f1, f2, f3⟩ := bigOf_ex (wrap64 (u - 1000)) k (by omega)
  obtain ⟨x, y, g1, g2⟩ := floatOfBig_ex b t w f2 f3
  obtain ⟨s, p3, e3, s0, s1, h3⟩ := below_some h2 40
  obtain ⟨b', t', w', f1', f2', f3'⟩ := bigOf_ex (wrap64 (1 + s)) k (by omega)
  obtain ⟨x', y', g1', g2'⟩ := floatOfBig_ex b' t' w' f2' f3'
  obtain ⟨z, zz, i1, i2⟩ := op4_ex x x' g2 g2' k hk
  rw [e2, Option.bind_some]
  dsimp only
  rw [f1, Option.bind_some]
  dsimp only
  rw [g1, Option.bind_some, e3, Option.bind_some]
  dsimp only
  rw [f1', Option.bind_some]
  dsimp only
  rw [g1', Option.bind_some]
  dsimp only
  rw [i1, Option.bind_some]
  exact ⟨_, _, rfl, i2, h3⟩
theorem op_some {L : List Int} (h : Rdr L 0) (k : Nat) (hk : 1400000 ≤ k) : ∃ o a b, spec_DrawFloatOp.f k L = some (o, a, b) ∧ u64R a ∧ u64R b := by
  unfold spec_DrawFloatOp.f spec_l1Open.f
  rw [Option.bind_some]
  dsimp only
  obtain ⟨v, p1, e, v0, v1, h1⟩ := below_some h 8
  obtain ⟨a, p2, e2, ha, h2⟩ := float_some h1 k hk
  obtain ⟨b, p3, e3, hb, h3⟩ := float_some h2 k hk
  obtain ⟨o, p4, e4, h4⟩ := once_some h3 6
  rw [e, Option.bind_some]
  dsimp only
  rw [e2, Option.bind_some]
  dsimp only
  rw [e3, Option.bind_some]
  dsimp only
  rw [e4, Option.bind_some]
  dsimp only
  cases o with
  | true => exact ⟨_, _, _, rfl, ha, bits_range _ _ _⟩
  | false => exact ⟨_, _, _, rfl, ha, hb⟩
theorem op_is (o : Int) (a b : Int) (h : o = 1 ∨ o = 2 ∨ o = 3) : impl_FloatOp.f o a b = some (canonZ (zV o a.toNat b.toNat), 0) := by
  unfold impl_FloatOp.f
  rw [if_neg (by omega), if_neg (by omega)]
end Go.Proofs.Ytghjbadanhplnaa.PF
namespace Go.Proofs.Ytghjbadanhplnaa.Pure
open Go.RowKit Go.Proofs.Ytghjbadanhplnaa.PF Go.Proofs.YtghjbadanhplnaaW.PrintWords Go.Proofs.YtghjbadanhplnaaW.PrintLast
theorem FnFloatRules : laws_FnFloatRules.Pure := by
  intro l0 hl1 hl2 hw
  obtain ⟨t, ht⟩ : ∃ t, laws_big.f l0 = some t := ⟨_, rfl⟩
  refine ⟨1400001, ?_⟩
  unfold laws_FnFloatRules.f
  rw [ht, Option.bind_some]
  cases t with
  | true => rw [if_pos rfl]
  | false =>
    rw [if_neg (by decide)]
    obtain ⟨o, a, b, e, ha, hb⟩ := op_some (Rdr.mk0 l0 (by omega) hw) 1400001 (by omega)
    have hxa : a.toNat < 18446744073709551616 := by have := ha.1; have := ha.2; omega
    have hxb : b.toNat < 18446744073709551616 := by have := hb.1; have := hb.2; omega
    rw [e, Option.bind_some]
    dsimp only
    rw [op_is 1 a b (Or.inl rfl), op_is 1 b a (Or.inl rfl), op_is 3 a b (Or.inr (Or.inr rfl)), op_is 3 b a (Or.inr (Or.inr rfl))]
    have z1 : zV 1 a.toNat b.toNat = zV 1 b.toNat a.toNat := add_comm' _ _ hxa hxb
    have z3 : zV 3 a.toNat b.toNat = zV 3 b.toNat a.toNat := mul_comm' _ _
    rw [z1, z3]
    simp only [Option.bind_some]
    have hj : laws_FnFloatRules.j0 1400001 a false = some true := by
      rw [show (1400001 : Nat) = 1400000 + 1 from rfl, laws_FnFloatRules.j0, if_neg (by decide), op_is 2 a a (Or.inr (Or.inl rfl)), Option.bind_some]
      have htwo : impl_FloatOp.f 1 4607182418800017408 4607182418800017408 = some (4611686018427387904, 0) := by decide +kernel
      have hone : impl_FloatCmp.f 4607182418800017408 4611686018427387904 = some (-1) := by decide +kernel
      rw [htwo, Option.bind_some, if_pos rfl]
      dsimp only
      rw [hone, Option.bind_some, if_pos rfl, if_pos rfl]
      rcases sub_self' a.toNat hxa with h | h
      · rw [if_pos (show canonZ (zV 2 a.toNat a.toNat) = 0 from h)]
      · have h2 : canonZ (zV 2 a.toNat a.toNat) = 9221120237041090560 := h
        rw [h2, if_neg (by decide)]
        rfl
    unfold impl_FloatCmp.f
    simp only [Option.bind_some]
    rw [if_pos True.intro, if_pos True.intro, if_pos True.intro, if_pos True.intro, if_pos True.intro, if_pos True.intro]
    rcases cmp_turn a.toNat b.toNat with ⟨h1, h2⟩ | ⟨h1, h2⟩ | ⟨h1, h2⟩ | ⟨h1, h2⟩
    · rw [h1, h2, if_pos rfl, if_pos rfl, hj]
    · rw [h1, h2, if_neg (by decide), show ((1 : Int) != wrap64 (- -1)) = false from by rw [wrap_in _ (by decide) (by decide)]; rfl]
      exact hj
    · rw [h1, h2, if_neg (by decide), show ((-1 : Int) != wrap64 (-1)) = false from by rw [wrap_in _ (by decide) (by decide)]; rfl]
      exact hj
    · rw [h1, h2, if_neg (by decide), show ((0 : Int) != wrap64 (-0)) = false from by rw [wrap_in _ (by decide) (by decide)]; rfl]
      exact hj
end Go.Proofs.Ytghjbadanhplnaa.Pure
