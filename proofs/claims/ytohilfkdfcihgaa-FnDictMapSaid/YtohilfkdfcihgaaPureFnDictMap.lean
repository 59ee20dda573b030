/- The law FnDictMap, as a Lean function, answers true for all drawn bytes. No condition beyond the statement's. -/
import Derived.Test.YtohilfkdfcihgaaPDmx2
import Derived.Test.YtohilfkdfcihgaaMapZ
set_option linter.unusedVariables false
set_option linter.unusedSimpArgs false
namespace Go.Proofs.Ytohilfkdfcihgaa.Pure
open Go.RowKit Go.Proofs.Ytohilfkdfcihgaa.PDi Go.Proofs.YtohilfkdfcihgaaW.PrintWords Go.Proofs.YtohilfkdfcihgaaW.PrintLast Go.Proofs.Ytohilfkdfcihgaa.DictT

theorem wf_u8 {x : Int} (h : (Lit.int .u8 x).wf = true) : 0 ≤ x ∧ x ≤ 255 := by
  have e : (Lit.int .u8 x).wf = (decide ((0 : Int) ≤ x) && decide (x ≤ 255)) := rfl
  rw [e] at h
  simpa using h

theorem u64_rng (x : Int) : 0 ≤ IntKind.u64.wrap x ∧ IntKind.u64.wrap x ≤ 18446744073709551615 := by
  have : IntKind.u64.wrap x = x % 18446744073709551616 := rfl
  rw [this]
  omega

/-- Bytes that are read. -/
structure Rd (s : List Int) (p : Int) : Prop where
  b : ∀ x ∈ s, 0 ≤ x ∧ x ≤ 255
  l : s.length ≤ 1048576
  p0 : 0 ≤ p
  p1 : p ≤ s.length

theorem next_some {s : List Int} {p : Int} (h : Rd s p) : ∃ v p', spec_l1Rd_next.f s p = some (v, p') ∧ 0 ≤ v ∧ v ≤ 255 ∧ Rd s p' := by
  have hl := h.l
  have h0 := h.p0
  have h1 := h.p1
  unfold spec_l1Rd_next.f
  by_cases hp : p ≥ (s.length : Int)
  · rw [if_pos hp]
    exact ⟨0, p, rfl, by omega, by omega, h⟩
  · have hb := h.b _ (rd_mem s p h0 (by omega))
    rw [if_neg hp, wrap_in (p + 1) (by omega) (by omega), wrap_in (p + 1 - 1) (by omega) (by omega), show p + 1 - 1 = p by omega, if_pos h0, if_pos (by omega), wrap_in (rd s p) (by omega) (by omega)]
    exact ⟨_, _, rfl, hb.1, hb.2, ⟨h.b, hl, by omega, by omega⟩⟩

theorem below_some {s : List Int} {p : Int} (h : Rd s p) (n : Int) (hn : n ≤ 1000000) : ∃ v p', spec_l1Rd_below.f s p n = some (v, p') ∧ 0 ≤ v ∧ (v < n ∨ v = 0) ∧ Rd s p' := by
  unfold spec_l1Rd_below.f
  by_cases c1 : n ≤ 1
  · rw [if_pos c1]
    exact ⟨0, p, rfl, by omega, Or.inr rfl, h⟩
  · rw [if_neg c1]
    obtain ⟨v, p', hv, v0, v1, h'⟩ := next_some h
    rw [hv, Option.bind_some, Option.bind_some]
    by_cases c2 : n ≤ 256
    · rw [if_pos c2, if_neg (by omega)]
      refine ⟨_, _, rfl, ?_, Or.inl ?_, h'⟩
      · show 0 ≤ Int.tmod v n
        rw [Int.tmod_eq_emod_of_nonneg v0]
        exact Int.emod_nonneg _ (by omega)
      · show Int.tmod v n < n
        rw [Int.tmod_eq_emod_of_nonneg v0]
        exact Int.emod_lt_of_pos _ (by omega)
    · obtain ⟨u, p2, hu, u0, u1, h2⟩ := next_some h'
      rw [if_neg c2]
      show ∃ v_1 p'_1, ((spec_l1Rd_next.f s p').bind fun bt107 => if n = 0 then none else some (Int.tmod (wrap64 (wrap64 (v * 256) + bt107.1)) n, bt107.2)) = some (v_1, p'_1) ∧ _
      rw [hu, Option.bind_some, if_neg (by omega)]
      have hw : wrap64 (wrap64 (v * 256) + u) = v * 256 + u := by
        rw [wrap_in (v * 256) (by omega) (by omega), wrap_in _ (by omega) (by omega)]
      refine ⟨_, _, rfl, ?_, Or.inl ?_, h2⟩
      · show 0 ≤ Int.tmod (wrap64 (wrap64 (v * 256) + u)) n
        rw [hw, Int.tmod_eq_emod_of_nonneg (by omega)]
        exact Int.emod_nonneg _ (by omega)
      · show Int.tmod (wrap64 (wrap64 (v * 256) + u)) n < n
        rw [hw, Int.tmod_eq_emod_of_nonneg (by omega)]
        exact Int.emod_lt_of_pos _ (by omega)

theorem once_some {s : List Int} {p : Int} (h : Rd s p) (n : Int) (hn : n ≤ 1000000) : ∃ b p', spec_l1Rd_once.f s p n = some (b, p') ∧ Rd s p' := by
  obtain ⟨v, p', hv, _, _, h'⟩ := below_some h n hn
  unfold spec_l1Rd_once.f
  rw [hv, Option.bind_some]
  exact ⟨_, _, rfl, h'⟩

theorem size_some {s : List Int} {p : Int} (h : Rd s p) : ∃ v p', spec_l1Rd_size.f s p 6 200 = some (v, p') ∧ 0 ≤ v ∧ v ≤ 200 ∧ Rd s p' := by
  have hl := h.l
  unfold spec_l1Rd_size.f
  have hw : wrap64 (1 + wrap64 ((s.length : Int) / 6)) = 1 + (s.length : Int) / 6 := by
    rw [wrap_in ((s.length : Int) / 6) (by omega) (by omega), wrap_in _ (by omega) (by omega)]
  rw [if_neg (by omega), hw]
  clear hw
  by_cases c : 1 + (s.length : Int) / 6 > 200
  · obtain ⟨v, p', hv, v0, v1, h'⟩ := below_some h 200 (by omega)
    rw [if_pos c, hv, Option.bind_some]
    refine ⟨_, _, rfl, ?_, ?_, h'⟩
    · show 0 ≤ wrap64 (1 + v)
      rw [wrap_in _ (by omega) (by omega)]
      omega
    · show wrap64 (1 + v) ≤ 200
      rw [wrap_in _ (by omega) (by omega)]
      omega
  · obtain ⟨v, p', hv, v0, v1, h'⟩ := below_some h (1 + (s.length : Int) / 6) (by omega)
    rw [if_neg c, hv, Option.bind_some]
    refine ⟨_, _, rfl, ?_, ?_, h'⟩
    · show 0 ≤ wrap64 (1 + v)
      rw [wrap_in _ (by omega) (by omega)]
      omega
    · show wrap64 (1 + v) ≤ 200
      rw [wrap_in _ (by omega) (by omega)]
      omega

def Hs (l : List S37) : Prop := ∀ o ∈ l, 0 ≤ o.f1 ∧ o.f1 ≤ 18446744073709551615

theorem Hs.app {l : List S37} (h : Hs l) (o : S37) (ho : 0 ≤ o.f1 ∧ o.f1 ≤ 18446744073709551615) : Hs (l ++ [o]) := by
  intro x hx
  rcases List.mem_append.1 hx with h1 | h1
  · exact h x h1
  · rw [List.mem_singleton.1 h1]
    exact ho

theorem ops_loop (s : List Int) (n : Int) (hn : n ≤ 200) (d : Nat) : ∀ (k i : Nat) (p : Int) (l : List S37), Rd s p → n ≤ i + d → l.length = i → i ≤ 200 → Hs l → d < k → ∃ l' p', spec_l7DrawOps.l0 k n l i s p = some (l', p') ∧ Rd s p' ∧ Hs l' ∧ l'.length ≤ 201 := by
  induction d with
  | zero =>
    intro k i p l h h1 h2 h3 hs hk
    obtain ⟨k, rfl⟩ : ∃ m, k = m + 1 := ⟨k - 1, by omega⟩
    unfold spec_l7DrawOps.l0
    rw [if_neg (by omega)]
    exact ⟨l, p, rfl, h, hs, by omega⟩
  | succ d ih =>
    intro k i p l h h1 h2 h3 hs hk
    obtain ⟨k, rfl⟩ : ∃ m, k = m + 1 := ⟨k - 1, by omega⟩
    unfold spec_l7DrawOps.l0
    by_cases c : (i : Int) < n
    · obtain ⟨v, p1, e1, v0, v1, r1⟩ := below_some h 10 (by omega)
      obtain ⟨u, p2, e2, u0, u1, r2⟩ := below_some r1 30 (by omega)
      obtain ⟨b, p3, e3, r3⟩ := once_some r2 3 (by omega)
      have hlen : (([1, 1, 1, 1, 2, 3, 3, 4, 5, 6] : List Int).length : Int) = 10 := rfl
      have hw : Aside0 (wrap64 ((i : Int) + 1) = ((i + 1 : Nat) : Int)) := ⟨by rw [wrap_in _ (by omega) (by omega)]; omega⟩
      rw [if_pos c, Option.bind_some, e1, Option.bind_some]
      dsimp only
      rw [if_pos v0, if_pos (by rw [hlen]; omega), e2, Option.bind_some]
      dsimp only
      rw [e3, Option.bind_some]
      dsimp only
      rw [if_pos (show l.length < 4398046511104 by omega), if_pos (show l.length < 4398046511104 by omega), hw.out]
      by_cases hb : b = true
      · rw [if_pos hb]
        exact ih k (i + 1) p3 _ r3 (by omega) (by rw [List.length_append, h2]; rfl) (by omega) (hs.app _ (u64_rng _)) (by omega)
      · rw [if_neg hb]
        exact ih k (i + 1) p3 _ r3 (by omega) (by rw [List.length_append, h2]; rfl) (by omega) (hs.app _ (u64_rng _)) (by omega)
    · rw [if_neg c]
      exact ⟨l, p, rfl, h, hs, by omega⟩

theorem run_loop (s : List Int) (d : Nat) : ∀ (k : Nat) (p : Int) (l : List S37), Rd s p → l.length + d = 5001 → Hs l → d < k → ∃ l', spec_DrawDictRun.l0 k l s p = some l' ∧ Hs l' := by
  induction d with
  | zero =>
    intro k p l h h1 hs hk
    obtain ⟨k, rfl⟩ : ∃ m, k = m + 1 := ⟨k - 1, by omega⟩
    obtain ⟨v, p1, e1, v0, v1, r1⟩ := below_some h 2 (by omega)
    unfold spec_DrawDictRun.l0
    rw [e1, Option.bind_some]
    dsimp only
    rw [wrap_in (5000 + v) (by omega) (by omega), if_neg (by omega)]
    exact ⟨l, rfl, hs⟩
  | succ d ih =>
    intro k p l h h1 hs hk
    obtain ⟨k, rfl⟩ : ∃ m, k = m + 1 := ⟨k - 1, by omega⟩
    obtain ⟨v, p1, e1, v0, v1, r1⟩ := below_some h 2 (by omega)
    unfold spec_DrawDictRun.l0
    rw [e1, Option.bind_some]
    dsimp only
    rw [wrap_in (5000 + v) (by omega) (by omega)]
    by_cases c : (l.length : Int) < 5000 + v
    · rw [if_pos c, if_pos (by omega)]
      exact ih k p1 _ r1 (by rw [List.length_append]; simp only [List.length_singleton]; omega) (hs.app _ (u64_rng _)) (by omega)
    · rw [if_neg c]
      exact ⟨l, rfl, hs⟩

theorem draw_some (s : List Int) (hb : ∀ x ∈ s, 0 ≤ x ∧ x ≤ 255) (hl : s.length ≤ 1048576) (k : Nat) (hk : 6000 ≤ k) : ∃ l, spec_DrawDictRun.f k s = some l ∧ Hs l := by
  have h : Rd s 0 := ⟨hb, hl, by omega, by omega⟩
  obtain ⟨n, p1, e1, n0, n1, r1⟩ := size_some h
  obtain ⟨l, p2, e2, r2, hs, hll⟩ := ops_loop s n n1 200 k 0 p1 [] r1 (by omega) rfl (by omega) (fun o ho => by simp at ho) (by omega)
  obtain ⟨b, p3, e3, r3⟩ := once_some r2 60 (by omega)
  unfold spec_DrawDictRun.f spec_l1Open.f spec_l7DrawOps.f
  rw [Option.bind_some]
  dsimp only
  rw [e1, Option.bind_some]
  dsimp only
  rw [show ((0 : Nat) : Int) = 0 from rfl] at e2
  rw [e2, Option.bind_some]
  dsimp only
  rw [e3, Option.bind_some]
  dsimp only
  by_cases hbb : b = true
  · rw [if_pos hbb]
    exact run_loop s (5001 - l.length) k p3 l r3 (by omega) hs (by omega)
  · rw [if_neg hbb]
    exact ⟨l, rfl, hs⟩

theorem j0_true (l : List S37) (hl : l.length ≤ 3000) (hs : Hs l) (k : Nat) (hk : 20000000 ≤ k) : laws_FnDictMap.j0 k l = some true := by
  obtain ⟨k, rfl⟩ : ∃ m, k = m + 1 := ⟨k - 1, by omega⟩
  obtain ⟨s, h1, h2, h3⟩ := map_both l hl hs l.length 0 (List.replicate 8 (-1)) [] 0 [] [] (by omega) rfl good_new (by omega) ⟨rfl, List.Pairwise.nil⟩
  rw [List.drop_zero, List.nil_append] at h1
  rw [List.nil_append] at h3
  have hr : impl_DictRun.f l = some s := by
    unfold impl_DictRun.f
    rw [if_neg (by omega)]
    exact h1
  rw [laws_FnDictMap.j0]
  rw [Option.bind_some, List.nil_append, if_pos (by simp only [List.length_nil]; omega), hr, Option.bind_some, if_pos (by omega)]
  exact h3 k (by omega)

theorem FnDictMap : laws_FnDictMap.Pure := by
  intro s hm _ hw
  refine ⟨20000001, ?_⟩
  unfold laws_FnDictMap.f laws_big.f
  rw [Option.bind_some]
  by_cases c : (s.length : Int) > 1048576
  · rw [if_pos (by simpa using c)]
  · rw [if_neg (by simpa using c)]
    obtain ⟨l, hl, hs⟩ := draw_some s (fun x hx => wf_u8 (hw x hx)) (by omega) 20000001 (by omega)
    rw [hl, Option.bind_some]
    by_cases c2 : (l.length : Int) > 3000
    · rw [if_pos c2, if_pos (by omega)]
      exact j0_true _ (by rw [List.length_take]; omega) (fun o ho => hs o (List.mem_of_mem_take ho)) _ (by omega)
    · rw [if_neg c2]
      exact j0_true _ (by omega) hs _ (by omega)

end Go.Proofs.Ytohilfkdfcihgaa.Pure
