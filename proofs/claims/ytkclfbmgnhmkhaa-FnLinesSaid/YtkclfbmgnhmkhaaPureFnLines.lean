/- At every code the classes drawn have lines as the law says. Plain law; no condition beyond the code's size. -/
import Derived.Test.YtkclfbmgnhmkhaaPNx4
import Derived.Test.YtkclfbmgnhmkhaaDrawZ
import Derived.Test.YtkclfbmgnhmkhaaLinS
namespace Go.Proofs.Ytkclfbmgnhmkhaa.Pure
open Go.RowKit Go.Proofs.Ytkclfbmgnhmkhaa.PC Go.Proofs.YtkclfbmgnhmkhaaW.PrintWords Go.Proofs.YtkclfbmgnhmkhaaW.PrintLast
set_option linter.unusedVariables false
set_option linter.unusedSimpArgs false

theorem sub_ne {x y : Int} {a b : List Int} (h : (x :: a).Sublist (y :: b)) (e : x ≠ y) : (x :: a).Sublist b := by
  cases h with
  | cons _ h => exact h
  | cons_cons _ h => exact absurd rfl e
theorem within_loop (a b : List Int) (ha : a.length ≤ 1000000) (hb : b.length ≤ 1000000) (d : Nat) : ∀ (k i j : Nat), j + d = b.length → i ≤ a.length → (a.drop i).Sublist (b.drop j) → 2 * d + 2 ≤ k → laws_within.l0 k a b (i : Int) (j : Int) = some true := by
  induction d with
  | zero =>
    intro k i j hj hi hs hk
    obtain ⟨k, rfl⟩ : ∃ m, k = m + 2 := ⟨k - 2, by omega⟩
    rw [List.drop_eq_nil_iff.2 (show b.length ≤ j by omega), List.sublist_nil, List.drop_eq_nil_iff] at hs
    rw [show k + 2 = (k + 1) + 1 from rfl, laws_within.l0, if_neg (by omega), laws_within.j1, if_neg (by decide), show i = a.length by omega]
    simp
  | succ d ih =>
    intro k i j hj hi hs hk
    obtain ⟨k, rfl⟩ : ∃ m, k = m + 2 := ⟨k - 2, by omega⟩
    have hjL : j < b.length := by omega
    rw [show k + 2 = (k + 1) + 1 from rfl, laws_within.l0, if_pos (by omega)]
    by_cases c : i < a.length
    · rw [show decide ((i : Int) < (a.length : Int)) = true from decide_eq_true (by omega), laws_within.j1, if_pos rfl, if_pos (by omega), if_pos (by omega), if_pos (by omega), if_pos (by omega)]
      have h1 : rd a (i : Int) = a[i] := by simp [rd, List.getElem?_eq_getElem c]
      have h2 : rd b (j : Int) = b[j] := by simp [rd, List.getElem?_eq_getElem hjL]
      rw [h1, h2]
      rw [List.drop_eq_getElem_cons c, List.drop_eq_getElem_cons hjL] at hs
      by_cases e : a[i] = b[j]
      · rw [if_pos e, wrapS i (by omega), wrapS j (by omega)]
        rw [e, List.cons_sublist_cons] at hs
        exact ih k (i + 1) (j + 1) (by omega) (by omega) hs (by omega)
      · rw [if_neg e, wrapS j (by omega)]
        refine ih k i (j + 1) (by omega) hi ?_ (by omega)
        rw [List.drop_eq_getElem_cons c]
        exact sub_ne hs e
    · rw [show decide ((i : Int) < (a.length : Int)) = false from decide_eq_false (by omega), laws_within.j1, if_neg (by decide), show i = a.length by omega]
      simp
theorem within_some (a b : List Int) (ha : a.length ≤ 1000000) (hb : b.length ≤ 1000000) (hs : a.Sublist b) (k : Nat) (hk : 2 * b.length + 2 ≤ k) : laws_within.f k a b = some true := by
  unfold laws_within.f
  exact within_loop a b ha hb b.length k 0 0 (by omega) (by omega) hs hk

/-- How the lines are answered: all of them, or the first class that has none. -/
theorem mro_all (ls : List (List Int)) : ∀ (L : List (List Int)) (i : Nat), (mroRes ls L i = (ls, -1) ∧ ∀ x ∈ L, x ≠ []) ∨ ∃ j, i ≤ j ∧ mroRes ls L i = ([], ((j : Nat) : Int))
  | [], i => Or.inl ⟨rfl, by simp⟩
  | x :: r, i => by
    rw [mroRes]
    by_cases e : x.isEmpty = true
    · rw [if_pos e]
      exact Or.inr ⟨i, Nat.le_refl _, rfl⟩
    · rw [if_neg e]
      rcases mro_all ls r (i + 1) with ⟨h1, h2⟩ | ⟨j, h1, h2⟩
      · refine Or.inl ⟨h1, fun y hy => ?_⟩
        rcases List.mem_cons.1 hy with rfl | hy
        · intro h
          rw [h] at e
          exact e rfl
        · exact h2 y hy
      · exact Or.inr ⟨j, by omega, h2⟩
theorem l5_all (l : List S41) (ls : List (List Int)) (hls : impl_ylines.f l = some ls) (hok : okCls l = true) (hlen : ls.length = l.length) (h200 : l.length ≤ 200) (hsm : ∀ L ∈ ls, L.length ≤ 200 ∧ L.Nodup) (i : Nat) (hi : i < l.length) (hne : ls.getD i [] ≠ []) (C : Nat) (next : ∀ k, C ≤ k → laws_FnLines.l2 k l ls ((i + 1 : Nat) : Int) = some true) (d : Nat) : ∀ (k q : Nat), q + d = l[i].f0.length → C + d + 1000 ≤ k → laws_FnLines.l5 k l ls (i : Int) (q : Int) = some true := by
  obtain ⟨t, h1, h2, h3⟩ := line_like l ls hls i hi hne
  obtain ⟨_, hb, _⟩ := okCls_base hok i hi
  have hbl := h2.length_le
  have hl1 : (ls.getD i []).length ≤ 200 := by
    rw [List.getD_eq_getElem?_getD, List.getElem?_eq_getElem (show i < ls.length by omega)]
    exact (hsm _ (List.getElem_mem (show i < ls.length by omega))).1
  induction d with
  | zero =>
    intro k q hq hk
    obtain ⟨k, rfl⟩ : ∃ m, k = m + 1 := ⟨k - 1, by omega⟩
    rw [laws_FnLines.l5, if_pos (by omega), if_pos (by omega), rd41 l i hi, if_neg (by omega), wrapS i (by omega)]
    exact next k (by omega)
  | succ d ih =>
    intro k q hq hk
    obtain ⟨k, rfl⟩ : ∃ m, k = m + 1 := ⟨k - 1, by omega⟩
    have hqL : q < l[i].f0.length := by omega
    have hr : rd l[i].f0 (q : Int) = l[i].f0[q] := by simp [rd, List.getElem?_eq_getElem hqL]
    have hbq := hb _ (List.getElem_mem hqL)
    have h5 := h3 _ (List.getElem_mem hqL)
    have hl2 := h5.length_le
    rw [laws_FnLines.l5, if_pos (by omega), if_pos (by omega), rd41 l i hi, if_pos (by omega), if_pos (by omega), hr, if_pos (by omega), if_pos (by omega), if_pos (by omega)]
    have e1 : rd_L1 ls (l[i].f0[q]) = ls.getD (l[i].f0[q]).toNat [] := rfl
    have e2 : rd_L1 ls (i : Int) = ls.getD i [] := rfl
    rw [e1, e2, within_some _ _ (by omega) (by omega) h5 k (by omega), Option.bind_some, if_pos rfl, wrapS q (by omega)]
    exact ih k (q + 1) (by omega) (by omega)
theorem l4_all (l : List S41) (ls : List (List Int)) (hlen : ls.length = l.length) (hsm : ∀ L ∈ ls, L.length ≤ 200 ∧ L.Nodup) (i : Nat) (hi : i < l.length) (p : Nat) (hp : p < (ls.getD i []).length) (C : Nat) (next : ∀ k, C ≤ k → laws_FnLines.l3 k l ls (i : Int) ((p + 1 : Nat) : Int) = some true) (d : Nat) : ∀ (k q : Nat), q + d = p → C + d + 1 ≤ k → laws_FnLines.l4 k l ls (i : Int) (p : Int) (q : Int) = some true := by
  have hL : ls.getD i [] ∈ ls := by
    rw [List.getD_eq_getElem?_getD, List.getElem?_eq_getElem (show i < ls.length by omega)]
    exact List.getElem_mem (show i < ls.length by omega)
  obtain ⟨hl1, hnd⟩ := hsm _ hL
  have e2 : rd_L1 ls (i : Int) = ls.getD i [] := rfl
  induction d with
  | zero =>
    intro k q hq hk
    obtain ⟨k, rfl⟩ : ∃ m, k = m + 1 := ⟨k - 1, by omega⟩
    rw [laws_FnLines.l4, if_neg (by omega), wrapS p (by omega)]
    exact next k (by omega)
  | succ d ih =>
    intro k q hq hk
    obtain ⟨k, rfl⟩ : ∃ m, k = m + 1 := ⟨k - 1, by omega⟩
    have hqL : q < (ls.getD i []).length := by omega
    have h1 : rd (ls.getD i []) (q : Int) = (ls.getD i [])[q] := rdI _ q hqL
    have h2 : rd (ls.getD i []) (p : Int) = (ls.getD i [])[p] := rdI _ p hp
    rw [laws_FnLines.l4, if_pos (by omega), if_pos (by omega), if_pos (by omega), if_pos (by omega), e2, if_pos (by omega), if_pos (by omega), if_pos (by omega), h1, h2]
    have hne : (ls.getD i [])[q] ≠ (ls.getD i [])[p] := List.pairwise_iff_getElem.1 hnd q p hqL hp (by omega)
    rw [if_neg hne, wrapS q (by omega)]
    exact ih k (q + 1) (by omega) (by omega)
theorem l3_all (l : List S41) (ls : List (List Int)) (hls : impl_ylines.f l = some ls) (hok : okCls l = true) (hlen : ls.length = l.length) (h200 : l.length ≤ 200) (hsm : ∀ L ∈ ls, L.length ≤ 200 ∧ L.Nodup) (i : Nat) (hi : i < l.length) (hne : ls.getD i [] ≠ []) (C : Nat) (next : ∀ k, C ≤ k → laws_FnLines.l2 k l ls ((i + 1 : Nat) : Int) = some true) (d : Nat) : ∀ (k p : Nat), p + d = (ls.getD i []).length → C + 2000 + 300 * d ≤ k → laws_FnLines.l3 k l ls (i : Int) (p : Int) = some true := by
  have hL : ls.getD i [] ∈ ls := by
    rw [List.getD_eq_getElem?_getD, List.getElem?_eq_getElem (show i < ls.length by omega)]
    exact List.getElem_mem (show i < ls.length by omega)
  obtain ⟨hl1, _⟩ := hsm _ hL
  have e2 : rd_L1 ls (i : Int) = ls.getD i [] := rfl
  induction d with
  | zero =>
    intro k p hp hk
    obtain ⟨k, rfl⟩ : ∃ m, k = m + 1 := ⟨k - 1, by omega⟩
    rw [laws_FnLines.l3, if_pos (by omega), if_pos (by omega), e2, if_neg (by omega)]
    obtain ⟨t, h1, h2, h3⟩ := line_like l ls hls i hi hne
    have hbl := h2.length_le
    exact l5_all l ls hls hok hlen h200 hsm i hi hne C next l[i].f0.length k 0 (by omega) (by omega)
  | succ d ih =>
    intro k p hp hk
    obtain ⟨k, rfl⟩ : ∃ m, k = m + 1 := ⟨k - 1, by omega⟩
    rw [laws_FnLines.l3, if_pos (by omega), if_pos (by omega), e2, if_pos (by omega)]
    exact l4_all l ls hlen hsm i hi p (by omega) (C + 2000 + 300 * d) (fun k hk => ih k (p + 1) (by omega) hk) p k 0 (by omega) (by omega)
theorem l2_all (l : List S41) (ls : List (List Int)) (hls : impl_ylines.f l = some ls) (hok : okCls l = true) (hlen : ls.length = l.length) (h200 : l.length ≤ 200) (hsm : ∀ L ∈ ls, L.length ≤ 200 ∧ L.Nodup) (hall : ∀ x ∈ ls, x ≠ []) (d : Nat) : ∀ (k i : Nat), i + d = l.length → 100000 * (d + 1) ≤ k → laws_FnLines.l2 k l ls (i : Int) = some true := by
  induction d with
  | zero =>
    intro k i hi hk
    obtain ⟨k, rfl⟩ : ∃ m, k = m + 1 := ⟨k - 1, by omega⟩
    rw [laws_FnLines.l2, if_neg (by omega)]
  | succ d ih =>
    intro k i hi hk
    obtain ⟨k, rfl⟩ : ∃ m, k = m + 2 := ⟨k - 2, by omega⟩
    have hiL : i < l.length := by omega
    have e2 : rd_L1 ls (i : Int) = ls.getD i [] := rfl
    have hL : ls.getD i [] ∈ ls := by
      rw [List.getD_eq_getElem?_getD, List.getElem?_eq_getElem (show i < ls.length by omega)]
      exact List.getElem_mem (show i < ls.length by omega)
    have hne := hall _ hL
    obtain ⟨hl1, _⟩ := hsm _ hL
    obtain ⟨t, h1, h2, h3⟩ := line_like l ls hls i hiL hne
    have hbl := h2.length_le
    have hpos := List.length_pos_iff.2 hne
    have hrd : rd (ls.getD i []) 0 = (i : Int) := by rw [h1]; rfl
    rw [show k + 2 = (k + 1) + 1 from rfl, laws_FnLines.l2, if_pos (by omega), if_pos (by omega), if_pos (by omega), e2, if_neg (by omega), if_pos (by omega), if_pos hrd, rd41 l i hiL, within_some _ _ (by omega) (by omega) h2 (k + 1) (by omega), Option.bind_some, laws_FnLines.j3, if_neg (by decide)]
    exact l3_all l ls hls hok hlen h200 hsm i hiL hne (100000 * (d + 1)) (fun k hk => ih k (i + 1) (by omega) hk) (ls.getD i []).length k 0 (by omega) (by omega)
theorem l1_all (l : List S41) (F : List Bool) (hF : F.length = l.length) (hl : l.length ≤ 1000) (d : Nat) : ∀ (k i : Nat), i + d = l.length → d < k → laws_FnLines.l1 k l F [] F (i : Int) = some true := by
  induction d with
  | zero =>
    intro k i hi hk
    obtain ⟨k, rfl⟩ : ∃ m, k = m + 1 := ⟨k - 1, by omega⟩
    rw [laws_FnLines.l1, if_neg (by omega)]
    rfl
  | succ d ih =>
    intro k i hi hk
    obtain ⟨k, rfl⟩ : ∃ m, k = m + 1 := ⟨k - 1, by omega⟩
    rw [laws_FnLines.l1, if_pos (by omega), if_pos (by omega), if_pos (by omega), if_pos (by omega), if_neg (by simp), wrapS i (by omega)]
    exact ih k (i + 1) (by omega) (by omega)
/-- The first class without a line, as the law looks for it from behind. -/
theorem l0_all (l : List S41) (ls : List (List Int)) (hl : ls.length ≤ 1000) (x5 : List (List Int)) (x6 : Int) (d : Nat) : ∀ (k : Nat), d ≤ ls.length → d < k → (∀ k', k - d ≤ k' → laws_FnLines.l0 k' l (ls.map fun L => !L.isEmpty) x5 x6 (mroRes ls ls 0).2 (-1) = some true) → laws_FnLines.l0 k l (ls.map fun L => !L.isEmpty) x5 x6 (mroRes ls (ls.drop d) d).2 ((d : Int) - 1) = some true := by
  induction d with
  | zero =>
    intro k hd hk hn
    exact hn k (by omega)
  | succ d ih =>
    intro k hd hk hn
    obtain ⟨k, rfl⟩ : ∃ m, k = m + 1 := ⟨k - 1, by omega⟩
    have hdL : d < ls.length := by omega
    have e1 : (((d + 1 : Nat) : Int) - 1) = (d : Int) := by omega
    have hr : rdOf false (ls.map fun L => !L.isEmpty) (d : Int) = !(ls.getD d []).isEmpty := by simp [rdOf, List.getElem?_eq_getElem hdL]
    have hm := mroRes_drop ls ls d hdL
    rw [e1, laws_FnLines.l0, if_pos (by omega), if_pos (by omega), if_pos (by rw [List.length_map]; omega), hr, wrap_in ((d : Int) - 1) (by omega) (by omega)]
    have hstep := ih k (by omega) (by omega) (fun k' h => hn k' (by omega))
    rw [hm] at hstep
    cases e : (ls.getD d []).isEmpty with
    | true =>
      rw [e, if_pos rfl] at hstep
      rw [if_neg (by decide)]
      exact hstep
    | false =>
      rw [e, if_neg (by decide)] at hstep
      rw [if_pos (show (!false) = true from rfl)]
      exact hstep

theorem FnLines : ∀ (l0 : List Int), l0.length ≤ maxLen → l0.length * 1 ≤ 140737488351232 → (∀ x ∈ l0, (Lit.int .u8 x).wf = true) → ∃ k, laws_FnLines.f k l0 = some true := by
  intro L hm hl hw
  refine ⟨60000000, ?_⟩
  unfold laws_FnLines.f laws_big.f
  rw [Option.bind_some]
  by_cases hbig : (L.length : Int) > 1048576
  · rw [if_pos (decide_eq_true hbig)]
  rw [if_neg (by simpa using hbig)]
  obtain ⟨l, p, e, hl3, ho, _⟩ := draw_good L 0 (Rdr.mk0 L (by omega) hw) 60000000 (by omega)
  have eD : spec_DrawMro.f 60000000 L = some l := by
    unfold spec_DrawMro.f spec_l1Open.f
    rw [Option.bind_some]
    dsimp only
    rw [e, Option.bind_some]
  rw [eD, Option.bind_some]
  have hsmall : ∀ c ∈ l, c.f0.length ≤ 1048576 ∧ c.f1.length ≤ 1048576 := fun c hc => by have := ho c hc; omega
  obtain ⟨F, f1, f2, _⟩ := fits_both l (by omega) hsmall 59999999 (by omega)
  rcases lines_both l (by omega) hsmall 60000000 (by omega) with ⟨_, e1, e2⟩ | ⟨hok, e1, e2, ls, e3, e4, hoo, h3, h4⟩
  · have g1 : impl_MroFits.f l = some [] := by
      unfold impl_MroFits.f
      rw [e2, Option.bind_some, if_pos rfl]
    have g2 : impl_Mro.f l = some ([], -2) := by
      unfold impl_Mro.f
      rw [e2, Option.bind_some, if_pos rfl]
    rw [g1, Option.bind_some, g2, Option.bind_some, e1, Option.bind_some, if_neg (by decide)]
    rfl
  · have g1 : impl_MroFits.f l = some (ls.map fun L => !L.isEmpty) := by
      unfold impl_MroFits.f
      rw [e2, Option.bind_some, if_neg (by decide), e3, Option.bind_some, if_pos (by omega)]
    have g2 : impl_Mro.f l = some (mroRes ls ls 0) := by
      unfold impl_Mro.f
      rw [e2, Option.bind_some, if_neg (by decide), e3, Option.bind_some, if_pos (by omega)]
    have hlen := hoo.1
    rw [g1, Option.bind_some, g2, Option.bind_some, e1, Option.bind_some, if_pos rfl, if_pos (by rw [List.length_map, hlen]), wrap_in ((l.length : Int) - 1) (by omega) (by omega)]
    have hend : ∀ k', 50000000 ≤ k' → laws_FnLines.l0 k' l (ls.map fun L => !L.isEmpty) (mroRes ls ls 0).1 (mroRes ls ls 0).2 (mroRes ls ls 0).2 (-1) = some true := by
      intro k' hk'
      obtain ⟨k, rfl⟩ : ∃ m, k' = m + 1 := ⟨k' - 1, by omega⟩
      rw [laws_FnLines.l0, if_neg (by decide), if_pos rfl]
      rcases mro_all ls ls 0 with ⟨h5, h6⟩ | ⟨j, _, h5⟩
      · rw [h5]
        dsimp only
        rw [if_neg (by decide), if_pos (by omega)]
        exact l2_all l ls e3 hok hlen (by omega) (fun L hL => ⟨h4 L hL, (hoo.2 L hL).1⟩) h6 l.length k 0 (by omega) (by omega)
      · rw [h5]
        dsimp only
        obtain ⟨F, f1, f2, _⟩ := fits_both l (by omega) hsmall k (by omega)
        rw [if_pos (by omega), f1, Option.bind_some]
        rw [f2] at g1
        obtain rfl := Option.some.inj g1
        exact l1_all l _ (by rw [List.length_map, hlen]) (by omega) l.length k 0 (by omega) (by omega)
    have h7 := l0_all l ls (by omega) (mroRes ls ls 0).1 (mroRes ls ls 0).2 ls.length 60000000 (Nat.le_refl _) (by omega)
    rw [List.drop_length, mroRes, hlen] at h7
    exact h7 (fun k' hk' => hend k' (by omega))

end Go.Proofs.Ytkclfbmgnhmkhaa.Pure
