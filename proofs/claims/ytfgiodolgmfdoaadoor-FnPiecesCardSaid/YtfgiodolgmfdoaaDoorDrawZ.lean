/- What the reader of a code gives: each draw comes to an end, and what it draws is in its bounds. Plain law; no condition beyond those of the theorems. -/
import Derived.Test.YtfgiodolgmfdoaaDoorPQx3
import Derived.Test.YtfgiodolgmfdoaaDoorUtf
namespace Go.Proofs.YtfgiodolgmfdoaaDoor.PT
open Go.RowKit Go.Proofs.YtfgiodolgmfdoaaDoorW.PrintWords Go.Proofs.YtfgiodolgmfdoaaDoorW.PrintLast
set_option linter.unusedVariables false
set_option linter.unusedSimpArgs false

/-- A reader at p over the bytes L. -/
structure Rdr (L : List Int) (p : Int) : Prop where
  hb : ∀ x ∈ L, 0 ≤ x ∧ x ≤ 255
  hl : L.length ≤ 140737488351232
  p0 : 0 ≤ p
  p1 : p ≤ L.length

theorem Rdr.mk0 (L : List Int) (hl : L.length ≤ 140737488351232) (hw : ∀ x ∈ L, (Lit.int .u8 x).wf = true) : Rdr L 0 :=
  ⟨fun x hx => by
    have := hw x hx
    simp only [Lit.wf, Bool.and_eq_true, decide_eq_true_eq] at this
    have h1 : IntKind.u8.min = 0 := rfl
    have h2 : IntKind.u8.max = 255 := rfl
    omega, hl, Int.le_refl _, by omega⟩

theorem next_some {L : List Int} {p : Int} (h : Rdr L p) : ∃ v p', spec_l1Rd_next.f L p = some (v, p') ∧ 0 ≤ v ∧ v ≤ 255 ∧ Rdr L p' := by
  obtain ⟨hb, hl, p0, p1⟩ := h
  unfold spec_l1Rd_next.f
  by_cases c : p ≥ (L.length : Int)
  · rw [if_pos c]
    exact ⟨0, p, rfl, by omega, by omega, hb, hl, p0, p1⟩
  · have w1 : wrap64 (p + 1) = p + 1 := wrap_in _ (by omega) (by omega)
    rw [if_neg c, w1, show p + 1 - 1 = p by omega, wrap_in p (by omega) (by omega), if_pos p0, if_pos (by omega)]
    have hi : p.toNat < L.length := by omega
    have hr : rd L p = L[p.toNat] := by
      unfold rd
      rw [List.getD_eq_getElem?_getD, List.getElem?_eq_getElem hi]
      rfl
    have hx := hb _ (List.getElem_mem hi)
    rw [hr, wrap_in _ (by omega) (by omega)]
    exact ⟨_, _, rfl, hx.1, hx.2, hb, hl, by omega, by omega⟩

theorem below_some {L : List Int} {p : Int} (h : Rdr L p) (n : Int) : ∃ v p', spec_l1Rd_below.f L p n = some (v, p') ∧ 0 ≤ v ∧ (v < n ∨ v = 0) ∧ Rdr L p' := by
  unfold spec_l1Rd_below.f
  by_cases c : n ≤ 1
  · rw [if_pos c]
    exact ⟨0, p, rfl, by omega, Or.inr rfl, h⟩
  · rw [if_neg c]
    by_cases c2 : n ≤ 256
    · obtain ⟨v, p', e, v0, v1, h'⟩ := next_some h
      rw [if_pos c2, e, Option.bind_some, if_neg (by omega)]
      refine ⟨_, _, rfl, ?_, Or.inl ?_, h'⟩
      · rw [Int.tmod_eq_emod_of_nonneg v0]; exact Int.emod_nonneg _ (by omega)
      · rw [Int.tmod_eq_emod_of_nonneg v0]; exact Int.emod_lt_of_pos _ (by omega)
    · obtain ⟨v, p', e, v0, v1, h'⟩ := next_some h
      obtain ⟨u, p2, e2, u0, u1, h2⟩ := next_some h'
      rw [if_neg c2, e, Option.bind_some]
      dsimp only
      rw [e2, Option.bind_some, if_neg (by omega)]
      dsimp only
      rw [wrap_in (v * 256) (by omega) (by omega), wrap_in (v * 256 + u) (by omega) (by omega)]
      refine ⟨_, _, rfl, ?_, Or.inl ?_, h2⟩
      · rw [Int.tmod_eq_emod_of_nonneg (by omega)]; exact Int.emod_nonneg _ (by omega)
      · rw [Int.tmod_eq_emod_of_nonneg (by omega)]; exact Int.emod_lt_of_pos _ (by omega)

theorem once_some {L : List Int} {p : Int} (h : Rdr L p) (n : Int) : ∃ b p', spec_l1Rd_once.f L p n = some (b, p') ∧ Rdr L p' := by
  obtain ⟨v, p', e, _, _, h'⟩ := below_some h n
  unfold spec_l1Rd_once.f
  rw [e, Option.bind_some]
  exact ⟨_, _, rfl, h'⟩

theorem word_loop {L : List Int} (d : Nat) : ∀ (k : Nat) (i : Nat) (x p : Int), Rdr L p → i + d = 8 → d < k → ∃ v p', spec_l1Rd_word.l0 k x (i : Int) L p = some (v, p') ∧ Rdr L p' := by
  induction d with
  | zero =>
    intro k i x p h h1 h2
    obtain ⟨k, rfl⟩ : ∃ m, k = m + 1 := ⟨k - 1, by omega⟩
    rw [spec_l1Rd_word.l0, if_neg (by omega)]
    exact ⟨_, _, rfl, h⟩
  | succ d ih =>
    intro k i x p h h1 h2
    obtain ⟨k, rfl⟩ : ∃ m, k = m + 1 := ⟨k - 1, by omega⟩
    obtain ⟨v, p', e, _, _, h'⟩ := next_some h
    rw [spec_l1Rd_word.l0, if_pos (by omega), e, Option.bind_some]
    dsimp only
    rw [wrap_in ((i : Int) + 1) (by omega) (by omega)]
    exact ih k (i + 1) _ p' h' (by omega) (by omega)

theorem word_some {L : List Int} {p : Int} (h : Rdr L p) (k : Nat) (hk : 10 ≤ k) : ∃ v p', spec_l1Rd_word.f k L p = some (v, p') ∧ Rdr L p' := word_loop 8 k 0 0 p h (by omega) (by omega)

theorem wrap_wf (x : Int) : (Lit.int .i64 (wrap64 x)).wf = true := by
  have h1 : IntKind.i64.min = -9223372036854775808 := rfl
  have h2 : IntKind.i64.max = 9223372036854775807 := rfl
  simp only [Lit.wf, Bool.and_eq_true, decide_eq_true_eq]
  rw [h1, h2]
  unfold wrap64
  omega
theorem small_wf (x : Int) (h0 : -1000000 ≤ x) (h1 : x ≤ 1000000) : (Lit.int .i64 x).wf = true := by
  have := wrap_wf x
  rwa [wrap_in x (by omega) (by omega)] at this

theorem drawInt_some {L : List Int} {p : Int} (h : Rdr L p) (k : Nat) (hk : 10 ≤ k) : ∃ v p', spec_l1DrawInt.f k L p = some (v, p') ∧ (Lit.int .i64 v).wf = true ∧ Rdr L p' := by
  obtain ⟨v, p1, e, v0, v1, h1⟩ := below_some h 6
  unfold spec_l1DrawInt.f
  rw [e, Option.bind_some]
  dsimp only
  by_cases c0 : v = 0
  · obtain ⟨u, p2, e2, u0, u1, h2⟩ := next_some h1
    rw [if_pos c0, e2, Option.bind_some]
    exact ⟨_, _, rfl, wrap_wf _, h2⟩
  · rw [if_neg c0]
    by_cases c1 : v = 1
    · obtain ⟨u, p2, e2, u0, u1, h2⟩ := below_some h1 12
      rw [if_pos c1, Option.bind_some, e2, Option.bind_some, if_pos u0, if_pos (by simp only [List.length_cons, List.length_nil]; omega)]
      refine ⟨_, _, rfl, ?_, h2⟩
      have hu : u = 0 ∨ u = 1 ∨ u = 2 ∨ u = 3 ∨ u = 4 ∨ u = 5 ∨ u = 6 ∨ u = 7 ∨ u = 8 ∨ u = 9 ∨ u = 10 ∨ u = 11 := by omega
      dsimp only
      rcases hu with rfl | rfl | rfl | rfl | rfl | rfl | rfl | rfl | rfl | rfl | rfl | rfl <;> decide
    · rw [if_neg c1]
      by_cases c2 : v = 2
      · obtain ⟨u, p2, e2, h2⟩ := word_some h1 k hk
        rw [if_pos c2, e2, Option.bind_some]
        exact ⟨_, _, rfl, wrap_wf _, h2⟩
      · obtain ⟨u, p2, e2, u0, u1, h2⟩ := next_some h1
        rw [if_neg c2, e2, Option.bind_some]
        refine ⟨_, _, rfl, small_wf _ ?_ ?_, h2⟩
        · rw [Int.tmod_eq_emod_of_nonneg u0]; omega
        · rw [Int.tmod_eq_emod_of_nonneg u0]; omega

theorem piece_some {L : List Int} {p : Int} (h : Rdr L p) : ∃ s p', spec_l3DrawPiece.f L p = some (s, p') ∧ s.size ≤ 4 ∧ Rdr L p' := by
  obtain ⟨v, p1, e, v0, v1, h1⟩ := below_some h 22
  unfold spec_l3DrawPiece.f
  rw [Option.bind_some, e, Option.bind_some, if_pos v0, if_pos (by simp only [List.length_cons, List.length_nil]; omega)]
  refine ⟨_, _, rfl, ?_, h1⟩
  have hv : v = 0 ∨ v = 1 ∨ v = 2 ∨ v = 3 ∨ v = 4 ∨ v = 5 ∨ v = 6 ∨ v = 7 ∨ v = 8 ∨ v = 9 ∨ v = 10 ∨ v = 11 ∨ v = 12 ∨ v = 13 ∨ v = 14 ∨ v = 15 ∨ v = 16 ∨ v = 17 ∨ v = 18 ∨ v = 19 ∨ v = 20 ∨ v = 21 := by omega
  dsimp only
  rcases hv with rfl | rfl | rfl | rfl | rfl | rfl | rfl | rfl | rfl | rfl | rfl | rfl | rfl | rfl | rfl | rfl | rfl | rfl | rfl | rfl | rfl | rfl <;> decide

theorem text_l1 {L : List Int} (d : Nat) : ∀ (k : Nat) (s : ByteArray) (p : Int), Rdr L p → s.size ≤ 17000 → 16400 ≤ s.size + d → d < k → ∃ r p', spec_l3DrawText.l1 k s L p = some (r, p') ∧ r.size ≤ 17000 ∧ Rdr L p' := by
  induction d with
  | zero =>
    intro k s p h hs h1 h2
    obtain ⟨k, rfl⟩ : ∃ m, k = m + 1 := ⟨k - 1, by omega⟩
    obtain ⟨v, p1, e, v0, v1, h1'⟩ := below_some h 3
    rw [spec_l3DrawText.l1, e, Option.bind_some]
    dsimp only
    rw [wrap_in (16384 + v) (by omega) (by omega), wrap_in (16384 + v - 1) (by omega) (by omega), if_neg (by omega)]
    exact ⟨_, _, rfl, hs, h1'⟩
  | succ d ih =>
    intro k s p h hs h1 h2
    obtain ⟨k, rfl⟩ : ∃ m, k = m + 1 := ⟨k - 1, by omega⟩
    obtain ⟨v, p1, e, v0, v1, h1'⟩ := below_some h 3
    rw [spec_l3DrawText.l1, e, Option.bind_some]
    dsimp only
    rw [wrap_in (16384 + v) (by omega) (by omega), wrap_in (16384 + v - 1) (by omega) (by omega)]
    by_cases c : (s.size : Int) < 16384 + v - 1
    · have hz : (s ++ (⟨#[97]⟩ : ByteArray)).size = s.size + 1 := by rw [ByteArray.size_append]; rfl
      rw [if_pos c, if_pos (by omega)]
      exact ih k _ p1 h1' (by omega) (by omega) (by omega)
    · rw [if_neg c]
      exact ⟨_, _, rfl, hs, h1'⟩

theorem text_j1 {L : List Int} (k : Nat) (s : ByteArray) (p : Int) (h : Rdr L p) (hs : s.size ≤ 1000) (hk : 20000 ≤ k) : ∃ r p', spec_l3DrawText.j1 k s L p = some (r, p') ∧ r.size ≤ 17000 ∧ Rdr L p' := by
  obtain ⟨k, rfl⟩ : ∃ m, k = m + 1 := ⟨k - 1, by omega⟩
  obtain ⟨b, p1, e, h1⟩ := once_some h 40
  rw [spec_l3DrawText.j1, e, Option.bind_some]
  cases b with
  | true =>
    dsimp only
    rw [if_pos rfl]
    exact text_l1 16400 k s p1 h1 (by omega) (by omega) (by omega)
  | false =>
    dsimp only
    rw [if_neg (by decide)]
    exact ⟨_, _, rfl, by omega, h1⟩

theorem text_l0 {L : List Int} (n : Int) (hn : n ≤ 12) (d : Nat) : ∀ (k i : Nat) (s : ByteArray) (p : Int), Rdr L p → s.size ≤ 4 * i → n ≤ (i : Int) + d → i ≤ 12 → d + 20001 < k → ∃ r p', spec_l3DrawText.l0 k n s (i : Int) L p = some (r, p') ∧ r.size ≤ 17000 ∧ Rdr L p' := by
  have tail : ∀ (k i : Nat) (s : ByteArray) (p : Int), Rdr L p → s.size ≤ 4 * i → i ≤ 12 → 20001 < k → ¬ (i : Int) < n → ∃ r p', spec_l3DrawText.l0 k n s (i : Int) L p = some (r, p') ∧ r.size ≤ 17000 ∧ Rdr L p' := by
    intro k i s p h hs hi hk hc
    obtain ⟨k, rfl⟩ : ∃ m, k = m + 1 := ⟨k - 1, by omega⟩
    obtain ⟨b, p1, e, h1⟩ := once_some h 25
    rw [spec_l3DrawText.l0, if_neg hc, e, Option.bind_some]
    cases b with
    | false =>
      dsimp only
      rw [if_neg (by decide)]
      exact text_j1 k s p1 h1 (by omega) (by omega)
    | true =>
      dsimp only
      obtain ⟨v, p2, e2, v0, v1, h2⟩ := below_some h1 6
      rw [if_pos rfl, Option.bind_some, e2, Option.bind_some]
      dsimp only
      rw [if_pos v0, if_pos (by simp only [List.length_cons, List.length_nil]; omega)]
      have hv : v = 0 ∨ v = 1 ∨ v = 2 ∨ v = 3 ∨ v = 4 ∨ v = 5 := by omega
      have hz : (rdOf ByteArray.empty [(⟨#[255]⟩ : ByteArray), (⟨#[195]⟩ : ByteArray), (⟨#[237, 160, 128]⟩ : ByteArray), (⟨#[192, 128]⟩ : ByteArray), (⟨#[244, 144, 128, 128]⟩ : ByteArray), (⟨#[226, 130]⟩ : ByteArray)] v).size ≤ 4 := by
        rcases hv with rfl | rfl | rfl | rfl | rfl | rfl <;> decide
      generalize rdOf ByteArray.empty _ v = q at *
      rw [if_pos (by omega)]
      exact text_j1 k _ p2 h2 (by rw [ByteArray.size_append]; omega) (by omega)
  induction d with
  | zero =>
    intro k i s p h hs hn2 hi hk
    exact tail k i s p h hs hi (by omega) (by omega)
  | succ d ih =>
    intro k i s p h hs hn2 hi hk
    by_cases c : (i : Int) < n
    · obtain ⟨k, rfl⟩ : ∃ m, k = m + 1 := ⟨k - 1, by omega⟩
      obtain ⟨q, p1, e, hq, h1⟩ := piece_some h
      rw [spec_l3DrawText.l0, if_pos c, e, Option.bind_some]
      dsimp only
      rw [if_pos (by omega), wrap_in ((i : Int) + 1) (by omega) (by omega)]
      exact ih k (i + 1) _ p1 h1 (by rw [ByteArray.size_append]; omega) (by omega) (by omega) (by omega)
    · exact tail k i s p h hs hi (by omega) c

theorem drawText_some {L : List Int} {p : Int} (h : Rdr L p) (k : Nat) (hk : 21000 ≤ k) : ∃ s p', spec_l3DrawText.f k L p = some (s, p') ∧ s.size ≤ 17000 ∧ Rdr L p' := by
  obtain ⟨v, p1, e, v0, v1, h1⟩ := below_some h 12
  unfold spec_l3DrawText.f
  rw [e, Option.bind_some]
  dsimp only
  exact text_l0 v (by omega) 12 k 0 _ p1 h1 (by decide) (by omega) (by omega) (by omega)

theorem drawTextLen_some (L : List Int) (h : Rdr L 0) (k : Nat) (hk : 21000 ≤ k) : ∃ s, spec_DrawTextLen.f k L = some s ∧ s.size ≤ 17000 := by
  unfold spec_DrawTextLen.f spec_l1Open.f
  rw [Option.bind_some]
  dsimp only
  obtain ⟨s, p, e, hs, _⟩ := drawText_some h k hk
  rw [e, Option.bind_some]
  exact ⟨s, rfl, hs⟩

theorem drawBound_some {L : List Int} {p : Int} (h : Rdr L p) (k : Nat) (hk : 10 ≤ k) : ∃ b v p', spec_l3DrawBound.f k L p = some (b, v, p') ∧ (Lit.int .i64 v).wf = true ∧ Rdr L p' := by
  unfold spec_l3DrawBound.f
  obtain ⟨b, p1, e, h1⟩ := once_some h 3
  rw [e, Option.bind_some]
  cases b with
  | true =>
    dsimp only
    rw [if_pos rfl]
    exact ⟨_, _, _, rfl, by decide, h1⟩
  | false =>
    dsimp only
    rw [if_neg (by decide)]
    obtain ⟨c, p2, e2, h2⟩ := once_some h1 10
    rw [e2, Option.bind_some]
    cases c with
    | true =>
      dsimp only
      rw [if_pos rfl]
      obtain ⟨v, p3, e3, hv, h3⟩ := drawInt_some h2 k hk
      rw [e3, Option.bind_some]
      exact ⟨_, _, _, rfl, hv, h3⟩
    | false =>
      dsimp only
      rw [if_neg (by decide)]
      obtain ⟨v, p3, e3, v0, v1, h3⟩ := below_some h2 18
      rw [e3, Option.bind_some]
      exact ⟨_, _, _, rfl, wrap_wf _, h3⟩

theorem drawSlice_some (L : List Int) (h : Rdr L 0) (k : Nat) (hk : 10 ≤ k) : ∃ n b1 x1 b2 x2 b3 x3, spec_DrawSliceList.f k L = some (n, b1, x1, b2, x2, b3, x3) ∧ n ≤ 16385 ∧ (Lit.int .i64 x1).wf = true ∧ (Lit.int .i64 x2).wf = true ∧ (Lit.int .i64 x3).wf = true := by
  unfold spec_DrawSliceList.f spec_l1Open.f
  rw [Option.bind_some]
  dsimp only
  obtain ⟨v, p1, e, v0, v1, h1⟩ := below_some h 14
  rw [e, Option.bind_some]
  dsimp only
  obtain ⟨b, p2, e2, h2⟩ := once_some h1 15
  rw [e2, Option.bind_some]
  dsimp only
  cases b with
  | true =>
    rw [if_pos rfl, Option.bind_some]
    obtain ⟨u, p3, e3, u0, u1, h3⟩ := below_some h2 3
    rw [e3, Option.bind_some]
    dsimp only
    rw [if_pos u0, if_pos (by simp only [List.length_cons, List.length_nil]; omega)]
    obtain ⟨c1, x1, p4, e4, w1, h4⟩ := drawBound_some h3 k hk
    obtain ⟨c2, x2, p5, e5, w2, h5⟩ := drawBound_some h4 k hk
    obtain ⟨c3, x3, p6, e6, w3, h6⟩ := drawBound_some h5 k hk
    rw [e4, Option.bind_some]
    dsimp only
    rw [e5, Option.bind_some]
    dsimp only
    rw [e6, Option.bind_some]
    refine ⟨_, _, _, _, _, _, _, rfl, ?_, w1, w2, w3⟩
    have hu : u = 0 ∨ u = 1 ∨ u = 2 := by omega
    try dsimp only
    rcases hu with rfl | rfl | rfl <;> decide
  | false =>
    rw [if_neg (by decide)]
    obtain ⟨c1, x1, p4, e4, w1, h4⟩ := drawBound_some h2 k hk
    obtain ⟨c2, x2, p5, e5, w2, h5⟩ := drawBound_some h4 k hk
    obtain ⟨c3, x3, p6, e6, w3, h6⟩ := drawBound_some h5 k hk
    rw [e4, Option.bind_some]
    dsimp only
    rw [e5, Option.bind_some]
    dsimp only
    rw [e6, Option.bind_some]
    exact ⟨_, _, _, _, _, _, _, rfl, by omega, w1, w2, w3⟩

end Go.Proofs.YtfgiodolgmfdoaaDoor.PT
