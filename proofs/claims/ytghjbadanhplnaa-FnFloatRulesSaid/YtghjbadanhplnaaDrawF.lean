/- What the reader of a code gives. Plain law; no condition beyond those of the theorems. -/
import Derived.Test.YtghjbadanhplnaaPGx3
import Derived.Test.YtghjbadanhplnaaLimbZ
namespace Go.Proofs.Ytghjbadanhplnaa.PF
open Go.RowKit Go.Proofs.YtghjbadanhplnaaW.PrintWords Go.Proofs.YtghjbadanhplnaaW.PrintLast
set_option linter.unusedVariables false
set_option linter.unusedSimpArgs false

/-- A reader at p over the bytes L. -/
structure Rdr (L : List Int) (p : Int) : Prop where
  hb : ∀ x ∈ L, 0 ≤ x ∧ x ≤ 255
  hl : L.length ≤ 140737488351232
  p0 : 0 ≤ p
  p1 : p ≤ L.length

theorem Rdr.mk0 (L : List Int) (hl : L.length ≤ 140737488351232) (hw : ∀ x ∈ L, (Lit.int .u8 x).wf = true) : Rdr L 0 :=
  ⟨fun x hx => by
    have := hw x hx
    simp only [Lit.wf, Bool.and_eq_true, decide_eq_true_eq] at this
    have h1 : IntKind.u8.min = 0 := rfl
    have h2 : IntKind.u8.max = 255 := rfl
    omega, hl, Int.le_refl _, by omega⟩

theorem next_some {L : List Int} {p : Int} (h : Rdr L p) : ∃ v p', spec_l1Rd_next.f L p = some (v, p') ∧ 0 ≤ v ∧ v ≤ 255 ∧ Rdr L p' := by
  obtain ⟨hb, hl, p0, p1⟩ := h
  unfold spec_l1Rd_next.f
  by_cases c : p ≥ (L.length : Int)
  · rw [if_pos c]
    exact ⟨0, p, rfl, by omega, by omega, hb, hl, p0, p1⟩
  · have w1 : wrap64 (p + 1) = p + 1 := wrap_in _ (by omega) (by omega)
    rw [if_neg c, w1, show p + 1 - 1 = p by omega, wrap_in p (by omega) (by omega), if_pos p0, if_pos (by omega)]
    have hi : p.toNat < L.length := by omega
    have hr : rd L p = L[p.toNat] := by
      unfold rd
      rw [List.getD_eq_getElem?_getD, List.getElem?_eq_getElem hi]
      rfl
    have hx := hb _ (List.getElem_mem hi)
    rw [hr, wrap_in _ (by omega) (by omega)]
    exact ⟨_, _, rfl, hx.1, hx.2, hb, hl, by omega, by omega⟩

theorem below_some {L : List Int} {p : Int} (h : Rdr L p) (n : Int) : ∃ v p', spec_l1Rd_below.f L p n = some (v, p') ∧ 0 ≤ v ∧ (v < n ∨ v = 0) ∧ Rdr L p' := by
  unfold spec_l1Rd_below.f
  by_cases c : n ≤ 1
  · rw [if_pos c]
    exact ⟨0, p, rfl, by omega, Or.inr rfl, h⟩
  · rw [if_neg c]
    by_cases c2 : n ≤ 256
    · obtain ⟨v, p', e, v0, v1, h'⟩ := next_some h
      rw [if_pos c2, e, Option.bind_some, if_neg (by omega)]
      refine ⟨_, _, rfl, ?_, Or.inl ?_, h'⟩
      · rw [Int.tmod_eq_emod_of_nonneg v0]; exact Int.emod_nonneg _ (by omega)
      · rw [Int.tmod_eq_emod_of_nonneg v0]; exact Int.emod_lt_of_pos _ (by omega)
    · obtain ⟨v, p', e, v0, v1, h'⟩ := next_some h
      obtain ⟨u, p2, e2, u0, u1, h2⟩ := next_some h'
      rw [if_neg c2, e, Option.bind_some]
      dsimp only
      rw [e2, Option.bind_some, if_neg (by omega)]
      dsimp only
      rw [wrap_in (v * 256) (by omega) (by omega), wrap_in (v * 256 + u) (by omega) (by omega)]
      refine ⟨_, _, rfl, ?_, Or.inl ?_, h2⟩
      · rw [Int.tmod_eq_emod_of_nonneg (by omega)]; exact Int.emod_nonneg _ (by omega)
      · rw [Int.tmod_eq_emod_of_nonneg (by omega)]; exact Int.emod_lt_of_pos _ (by omega)

theorem once_some {L : List Int} {p : Int} (h : Rdr L p) (n : Int) : ∃ b p', spec_l1Rd_once.f L p n = some (b, p') ∧ Rdr L p' := by
  obtain ⟨v, p', e, _, _, h'⟩ := below_some h n
  unfold spec_l1Rd_once.f
  rw [e, Option.bind_some]
  exact ⟨_, _, rfl, h'⟩


theorem bits_range (op : BinOp) (a b : Int) : 0 ≤ Go.bits op .u64 a b ∧ Go.bits op .u64 a b < 18446744073709551616 := by
  have key : ∀ x : Int, 0 ≤ IntKind.u64.wrap x ∧ IntKind.u64.wrap x < 18446744073709551616 := fun x => by
    rw [IntKind.wrap_u64]
    omega
  unfold Go.bits
  first | exact key _ | (split <;> first | exact key _ | (constructor <;> simp))
theorem word_loop {L : List Int} (d : Nat) : ∀ (k : Nat) (i : Nat) (x p : Int), Rdr L p → 0 ≤ x ∧ x < 18446744073709551616 → i + d = 8 → d < k → ∃ v p', spec_l1Rd_word.l0 k x (i : Int) L p = some (v, p') ∧ (0 ≤ v ∧ v < 18446744073709551616) ∧ Rdr L p' := by
  induction d with
  | zero =>
    intro k i x p h hx h1 h2
    obtain ⟨k, rfl⟩ : ∃ m, k = m + 1 := ⟨k - 1, by omega⟩
    rw [spec_l1Rd_word.l0, if_neg (by omega)]
    exact ⟨_, _, rfl, hx, h⟩
  | succ d ih =>
    intro k i x p h hx h1 h2
    obtain ⟨k, rfl⟩ : ∃ m, k = m + 1 := ⟨k - 1, by omega⟩
    obtain ⟨v, p', e, _, _, h'⟩ := next_some h
    rw [spec_l1Rd_word.l0, if_pos (by omega), e, Option.bind_some]
    dsimp only
    rw [wrap_in ((i : Int) + 1) (by omega) (by omega)]
    exact ih k (i + 1) _ p' h' (bits_range _ _ _) (by omega) (by omega)

theorem word_some {L : List Int} {p : Int} (h : Rdr L p) (k : Nat) (hk : 10 ≤ k) : ∃ v p', spec_l1Rd_word.f k L p = some (v, p') ∧ (0 ≤ v ∧ v < 18446744073709551616) ∧ Rdr L p' := word_loop 8 k 0 0 p h (by omega) (by omega) (by omega)

theorem wrap_wf (x : Int) : (Lit.int .i64 (wrap64 x)).wf = true := by
  have h1 : IntKind.i64.min = -9223372036854775808 := rfl
  have h2 : IntKind.i64.max = 9223372036854775807 := rfl
  simp only [Lit.wf, Bool.and_eq_true, decide_eq_true_eq]
  rw [h1, h2]
  unfold wrap64
  omega
theorem small_wf (x : Int) (h0 : -1000000 ≤ x) (h1 : x ≤ 1000000) : (Lit.int .i64 x).wf = true := by
  have := wrap_wf x
  rwa [wrap_in x (by omega) (by omega)] at this

theorem drawInt_some {L : List Int} {p : Int} (h : Rdr L p) (k : Nat) (hk : 10 ≤ k) : ∃ v p', spec_l1DrawInt.f k L p = some (v, p') ∧ (Lit.int .i64 v).wf = true ∧ Rdr L p' := by
  obtain ⟨v, p1, e, v0, v1, h1⟩ := below_some h 6
  unfold spec_l1DrawInt.f
  rw [e, Option.bind_some]
  dsimp only
  by_cases c0 : v = 0
  · obtain ⟨u, p2, e2, u0, u1, h2⟩ := next_some h1
    rw [if_pos c0, e2, Option.bind_some]
    exact ⟨_, _, rfl, wrap_wf _, h2⟩
  · rw [if_neg c0]
    by_cases c1 : v = 1
    · obtain ⟨u, p2, e2, u0, u1, h2⟩ := below_some h1 12
      rw [if_pos c1, Option.bind_some, e2, Option.bind_some, if_pos u0, if_pos (by simp only [List.length_cons, List.length_nil]; omega)]
      refine ⟨_, _, rfl, ?_, h2⟩
      have hu : u = 0 ∨ u = 1 ∨ u = 2 ∨ u = 3 ∨ u = 4 ∨ u = 5 ∨ u = 6 ∨ u = 7 ∨ u = 8 ∨ u = 9 ∨ u = 10 ∨ u = 11 := by omega
      dsimp only
      rcases hu with rfl | rfl | rfl | rfl | rfl | rfl | rfl | rfl | rfl | rfl | rfl | rfl <;> decide
    · rw [if_neg c1]
      by_cases c2 : v = 2
      · obtain ⟨u, p2, e2, _, h2⟩ := word_some h1 k hk
        rw [if_pos c2, e2, Option.bind_some]
        exact ⟨_, _, rfl, wrap_wf _, h2⟩
      · obtain ⟨u, p2, e2, u0, u1, h2⟩ := next_some h1
        rw [if_neg c2, e2, Option.bind_some]
        refine ⟨_, _, rfl, small_wf _ ?_ ?_, h2⟩
        · rw [Int.tmod_eq_emod_of_nonneg u0]; omega
        · rw [Int.tmod_eq_emod_of_nonneg u0]; omega

end Go.Proofs.Ytghjbadanhplnaa.PF
