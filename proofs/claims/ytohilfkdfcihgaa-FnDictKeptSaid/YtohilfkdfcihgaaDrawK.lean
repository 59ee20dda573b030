/- What the reference draws for a put: a dict with few entries, well formed or not. Plain law; no condition beyond those of the theorems. -/
import Derived.Test.YtohilfkdfcihgaaKeptB
import Derived.Test.YtohilfkdfcihgaaCutK
import Derived.Test.YtohilfkdfcihgaaPDkx7
set_option linter.unusedVariables false
set_option linter.unusedSimpArgs false
namespace Go.Proofs.Ytohilfkdfcihgaa.DictK
open Go.RowKit Go.Proofs.Ytohilfkdfcihgaa.PDi Go.Proofs.YtohilfkdfcihgaaW.PrintWords Go.Proofs.YtohilfkdfcihgaaW.PrintLast Go.Proofs.YtohilfkdfcihgaaW.PrintMore Go.Proofs.Ytohilfkdfcihgaa.DictT
theorem wf_u8 {x : Int} (h : (Lit.int .u8 x).wf = true) : 0 ≤ x ∧ x ≤ 255 := by
  have e : (Lit.int .u8 x).wf = (decide ((0 : Int) ≤ x) && decide (x ≤ 255)) := rfl
  rw [e] at h
  simpa using h
theorem u64_rng (x : Int) : 0 ≤ IntKind.u64.wrap x ∧ IntKind.u64.wrap x ≤ 18446744073709551615 := by
  have : IntKind.u64.wrap x = x % 18446744073709551616 := rfl
  rw [this]
  omega
structure Rd (s : List Int) (p : Int) : Prop where
  b : ∀ x ∈ s, 0 ≤ x ∧ x ≤ 255
  l : s.length ≤ 1048576
  p0 : 0 ≤ p
  p1 : p ≤ s.length
theorem next_some {s : List Int} {p : Int} (h : Rd s p) : ∃ v p', spec_l1Rd_next.f s p = some (v, p') ∧ 0 ≤ v ∧ v ≤ 255 ∧ Rd s p' := by
  have hl := h.l
  have h0 := h.p0
  have h1 := h.p1
  unfold spec_l1Rd_next.f
  by_cases hp : p ≥ (s.length : Int)
  · rw [if_pos hp]
    exact ⟨0, p, rfl, by omega, by omega, h⟩
  · have hb := h.b _ (rd_mem s p h0 (by omega))
    rw [if_neg hp, wrap_in (p + 1) (by omega) (by omega), wrap_in (p + 1 - 1) (by omega) (by omega), show p + 1 - 1 = p by omega, if_pos h0, if_pos (by omega), wrap_in (rd s p) (by omega) (by omega)]
    exact ⟨_, _, rfl, hb.1, hb.2, ⟨h.b, hl, by omega, by omega⟩⟩
theorem below_some {s : List Int} {p : Int} (h : Rd s p) (n : Int) (hn : n ≤ 1000000) : ∃ v p', spec_l1Rd_below.f s p n = some (v, p') ∧ 0 ≤ v ∧ (v < n ∨ v = 0) ∧ Rd s p' := by
  unfold spec_l1Rd_below.f
  by_cases c1 : n ≤ 1
  · rw [if_pos c1]
    exact ⟨0, p, rfl, by omega, Or.inr rfl, h⟩
  · rw [if_neg c1]
    obtain ⟨v, p', hv, v0, v1, h'⟩ := next_some h
    rw [hv, Option.bind_some, Option.bind_some]
    by_cases c2 : n ≤ 256
    · rw [if_pos c2, if_neg (by omega)]
      refine ⟨_, _, rfl, ?_, Or.inl ?_, h'⟩
      · show 0 ≤ Int.tmod v n
        rw [Int.tmod_eq_emod_of_nonneg v0]
        exact Int.emod_nonneg _ (by omega)
      · show Int.tmod v n < n
        rw [Int.tmod_eq_emod_of_nonneg v0]
        exact Int.emod_lt_of_pos _ (by omega)
    · obtain ⟨u, p2, hu, u0, u1, h2⟩ := next_some h'
      rw [if_neg c2]
      show ∃ v_1 p'_1, ((spec_l1Rd_next.f s p').bind fun bt107 => if n = 0 then none else some (Int.tmod (wrap64 (wrap64 (v * 256) + bt107.1)) n, bt107.2)) = some (v_1, p'_1) ∧ _
      rw [hu, Option.bind_some, if_neg (by omega)]
      have hw : wrap64 (wrap64 (v * 256) + u) = v * 256 + u := by
        rw [wrap_in (v * 256) (by omega) (by omega), wrap_in _ (by omega) (by omega)]
      refine ⟨_, _, rfl, ?_, Or.inl ?_, h2⟩
      · show 0 ≤ Int.tmod (wrap64 (wrap64 (v * 256) + u)) n
        rw [hw, Int.tmod_eq_emod_of_nonneg (by omega)]
        exact Int.emod_nonneg _ (by omega)
      · show Int.tmod (wrap64 (wrap64 (v * 256) + u)) n < n
        rw [hw, Int.tmod_eq_emod_of_nonneg (by omega)]
        exact Int.emod_lt_of_pos _ (by omega)
theorem once_some {s : List Int} {p : Int} (h : Rd s p) (n : Int) (hn : n ≤ 1000000) : ∃ b p', spec_l1Rd_once.f s p n = some (b, p') ∧ Rd s p' := by
  obtain ⟨v, p', hv, _, _, h'⟩ := below_some h n hn
  unfold spec_l1Rd_once.f
  rw [hv, Option.bind_some]
  exact ⟨_, _, rfl, h'⟩
theorem size_some {s : List Int} {p : Int} (h : Rd s p) : ∃ v p', spec_l1Rd_size.f s p 6 40 = some (v, p') ∧ 0 ≤ v ∧ v ≤ 40 ∧ Rd s p' := by
  have hl := h.l
  unfold spec_l1Rd_size.f
  have hw : wrap64 (1 + wrap64 ((s.length : Int) / 6)) = 1 + (s.length : Int) / 6 := by
    rw [wrap_in ((s.length : Int) / 6) (by omega) (by omega), wrap_in _ (by omega) (by omega)]
  rw [if_neg (by omega), hw]
  clear hw
  by_cases c : 1 + (s.length : Int) / 6 > 40
  · obtain ⟨v, p', hv, v0, v1, h'⟩ := below_some h 40 (by omega)
    rw [if_pos c, hv, Option.bind_some]
    refine ⟨_, _, rfl, ?_, ?_, h'⟩
    · show 0 ≤ wrap64 (1 + v)
      rw [wrap_in _ (by omega) (by omega)]
      omega
    · show wrap64 (1 + v) ≤ 40
      rw [wrap_in _ (by omega) (by omega)]
      omega
  · obtain ⟨v, p', hv, v0, v1, h'⟩ := below_some h (1 + (s.length : Int) / 6) (by omega)
    rw [if_neg c, hv, Option.bind_some]
    refine ⟨_, _, rfl, ?_, ?_, h'⟩
    · show 0 ≤ wrap64 (1 + v)
      rw [wrap_in _ (by omega) (by omega)]
      omega
    · show wrap64 (1 + v) ≤ 40
      rw [wrap_in _ (by omega) (by omega)]
      omega
def Hs (l : List S37) : Prop := ∀ o ∈ l, 0 ≤ o.f1 ∧ o.f1 ≤ 18446744073709551615
theorem Hs.app {l : List S37} (h : Hs l) (o : S37) (ho : 0 ≤ o.f1 ∧ o.f1 ≤ 18446744073709551615) : Hs (l ++ [o]) := by
  intro x hx
  rcases List.mem_append.1 hx with h1 | h1
  · exact h x h1
  · rw [List.mem_singleton.1 h1]
    exact ho
theorem ops_loop (s : List Int) (n : Int) (hn : n ≤ 200) (d : Nat) : ∀ (k i : Nat) (p : Int) (l : List S37), Rd s p → n ≤ i + d → l.length = i → i ≤ 200 → Hs l → d < k → ∃ l' p', spec_l7DrawOps.l0 k n l i s p = some (l', p') ∧ Rd s p' ∧ Hs l' ∧ l'.length ≤ 201 := by
  induction d with
  | zero =>
    intro k i p l h h1 h2 h3 hs hk
    obtain ⟨k, rfl⟩ : ∃ m, k = m + 1 := ⟨k - 1, by omega⟩
    unfold spec_l7DrawOps.l0
    rw [if_neg (by omega)]
    exact ⟨l, p, rfl, h, hs, by omega⟩
  | succ d ih =>
    intro k i p l h h1 h2 h3 hs hk
    obtain ⟨k, rfl⟩ : ∃ m, k = m + 1 := ⟨k - 1, by omega⟩
    unfold spec_l7DrawOps.l0
    by_cases c : (i : Int) < n
    · obtain ⟨v, p1, e1, v0, v1, r1⟩ := below_some h 10 (by omega)
      obtain ⟨u, p2, e2, u0, u1, r2⟩ := below_some r1 30 (by omega)
      obtain ⟨b, p3, e3, r3⟩ := once_some r2 3 (by omega)
      have hlen : (([1, 1, 1, 1, 2, 3, 3, 4, 5, 6] : List Int).length : Int) = 10 := rfl
      have hw : Aside0 (wrap64 ((i : Int) + 1) = ((i + 1 : Nat) : Int)) := ⟨by rw [wrap_in _ (by omega) (by omega)]; omega⟩
      rw [if_pos c, Option.bind_some, e1, Option.bind_some]
      dsimp only
      rw [if_pos v0, if_pos (by rw [hlen]; omega), e2, Option.bind_some]
      dsimp only
      rw [e3, Option.bind_some]
      dsimp only
      rw [if_pos (show l.length < 4398046511104 by omega), if_pos (show l.length < 4398046511104 by omega), hw.out]
      by_cases hb : b = true
      · rw [if_pos hb]
        exact ih k (i + 1) p3 _ r3 (by omega) (by rw [List.length_append, h2]; rfl) (by omega) (hs.app _ (u64_rng _)) (by omega)
      · rw [if_neg hb]
        exact ih k (i + 1) p3 _ r3 (by omega) (by rw [List.length_append, h2]; rfl) (by omega) (hs.app _ (u64_rng _)) (by omega)
    · rw [if_neg c]
      exact ⟨l, p, rfl, h, hs, by omega⟩
theorem l7Put_some {T : List Int} {E : List S62} {live : Int} (h : Fine T E live) (hash key val : Int) (h0 : 0 ≤ hash) (h1 : hash ≤ 18446744073709551615) (hlv : live ≤ 3000) (k : Nat) (hk : 6000000000 ≤ k) :
    ∃ (T' : List Int) (E' : List S62) (l' : Int), spec_l7Put.f k T E live hash key val = some (T', E', l', true) ∧ Fine T' E' l' ∧ (l' = live ∨ l' = live + 1) ∧ E'.length ≤ E.length + 1 ∧ ((T'.length : Int) ≤ T.length ∨ (T'.length : Int) ≤ 8 ∨ (T'.length : Int) ≤ 6 * live) := by
  obtain ⟨s8, s6, sl, l0, l1⟩ := h.good.sizes
  obtain ⟨T', E', l', e1, hF, _, _, hl, hE, hT⟩ := h.put hash key val h0 h1 hlv
  obtain ⟨r, e2, e3, _⟩ := put_both T E live hash key val (by omega) (by omega) h.good.h h0 h1
  unfold impl_DictPut.f at e2
  rw [fine_ok h, Option.bind_some, if_pos rfl, if_pos ⟨by omega, by omega⟩, e1] at e2
  have e4 := e3 k hk
  unfold specPut at e4
  rw [fine_spec h k hk, Option.bind_some, if_pos rfl, ← e2] at e4
  refine ⟨T', E', l', ?_, hF, hl, hE, hT⟩
  cases hp : spec_l7Put.f k T E live hash key val with
  | none => rw [hp] at e4; cases e4
  | some r => rw [hp, Option.bind_some] at e4; exact e4
theorem l7Cut_some {T : List Int} {E : List S62} {live : Int} (h : Fine T E live) (hash key : Int) (h0 : 0 ≤ hash) (h1 : hash ≤ 18446744073709551615) (k : Nat) (hk : 6000000000 ≤ k) :
    ∃ (E' : List S62) (l' : Int) (ok : Bool), spec_l7Cut.f k T E live hash key = some (T, E', l', ok) ∧ Fine T E' l' ∧ (l' = live ∨ l' = live - 1) ∧ E'.length = E.length := by
  obtain ⟨s8, s6, sl, l0, l1⟩ := h.good.sizes
  obtain ⟨E', l', ok, e1, hF, _, _, _, hl, hE⟩ := h.cut hash key h0 h1
  obtain ⟨r, e2, e3, _⟩ := cut_both T E live hash key (by omega) (by omega) h.good.h h0 h1
  unfold impl_DictCut.f at e2
  rw [fine_ok h, Option.bind_some, if_pos rfl, if_pos ⟨by omega, by omega⟩, e1] at e2
  have e4 := e3 k hk
  unfold specCut at e4
  rw [fine_spec h k hk, Option.bind_some, if_pos rfl, ← e2] at e4
  refine ⟨E', l', ok, ?_, hF, hl, hE⟩
  cases hp : spec_l7Cut.f k T E live hash key with
  | none => rw [hp] at e4; cases e4
  | some r => rw [hp, Option.bind_some] at e4; exact e4
theorem rd37_mem (l : List S37) (i : Nat) (h : i < l.length) : rd_T37 l (i : Int) ∈ l := by
  have : rd_T37 l (i : Int) = l[i] := by simp [rd_T37, List.getElem?_eq_getElem h]
  rw [this]
  exact List.getElem_mem h
theorem draw_loop (s : List Int) (p : Int) (L : List S37) (hL : L.length ≤ 201) (hs : Hs L) : ∀ (d k i : Nat) (T : List Int) (E : List S62) (live : Int), i + d = L.length → 6000000000 + d < k → Fine T E live → live ≤ i → E.length ≤ i → T.length ≤ 1300 →
    ∃ (T' : List Int) (E' : List S62) (l' : Int), spec_l7Draw.l0 k L (i : Int) s p T E live = some (T', E', l', p) ∧ Fine T' E' l' ∧ l' ≤ 201 ∧ E'.length ≤ 201 ∧ T'.length ≤ 1300
  | 0, k, i, T, E, live, h1, h2, hF, hl, hE, hT => by
    obtain ⟨k, rfl⟩ : ∃ m, k = m + 1 := ⟨k - 1, by omega⟩
    exact ⟨T, E, live, by rw [spec_l7Draw.l0, if_neg (by omega)], hF, by omega, by omega, hT⟩
  | d + 1, k, i, T, E, live, h1, h2, hF, hl, hE, hT => by
    obtain ⟨k, rfl⟩ : ∃ m, k = m + 1 := ⟨k - 1, by omega⟩
    have hi : i < L.length := by omega
    have hh := hs _ (rd37_mem L i hi)
    rw [spec_l7Draw.l0, if_pos (by omega), if_pos (by omega), wrap_in _ (by omega) (by omega), show (i : Int) + 1 = ((i + 1 : Nat) : Int) by omega]
    by_cases hc : (rd_T37 L (i : Int)).f0 = 3
    · obtain ⟨E', l', ok, e, hF', hl', hE'⟩ := l7Cut_some hF (rd_T37 L (i : Int)).f1 (rd_T37 L (i : Int)).f2 hh.1 hh.2 k (by omega)
      rw [if_pos hc, e, Option.bind_some]
      exact draw_loop s p L hL hs d k (i + 1) T E' l' (by omega) (by omega) hF' (by omega) (by omega) hT
    · obtain ⟨T', E', l', e, hF', hl', hE', hT'⟩ := l7Put_some hF (rd_T37 L (i : Int)).f1 (rd_T37 L (i : Int)).f2 (rd_T37 L (i : Int)).f3 hh.1 hh.2 (by omega) k (by omega)
      rw [if_neg hc, e, Option.bind_some]
      exact draw_loop s p L hL hs d k (i + 1) T' E' l' (by omega) (by omega) hF' (by omega) (by omega) (by omega)
theorem new_some (k : Nat) (hk : 5000000000 ≤ k) : spec_NewDict.f k = some (List.replicate 8 (-1), [], 0) := by
  unfold spec_NewDict.f
  have := spec_table 3 8 rfl (by omega) [] (by simp) (by simp) k hk
  rw [show ((8 : Nat) : Int) = 8 from rfl] at this
  rw [this]
  rfl
theorem fine_new : Fine (List.replicate 8 (-1)) [] 0 := ⟨good_new, rfl, List.nodup_nil⟩
theorem l7Draw_some {s : List Int} {p : Int} (h : Rd s p) (k : Nat) (hk : 6000001000 ≤ k) : ∃ (T : List Int) (E : List S62) (live p' : Int), spec_l7Draw.f k s p = some (T, E, live, p') ∧ Fine T E live ∧ live ≤ 201 ∧ E.length ≤ 201 ∧ T.length ≤ 1300 ∧ Rd s p' := by
  unfold spec_l7Draw.f spec_l7DrawOps.f
  obtain ⟨v, p1, e1, v0, v1, h1⟩ := size_some h
  obtain ⟨L, p2, e2, h2, hL, hl⟩ := ops_loop s v (by omega) v.toNat k 0 p1 [] h1 (by omega) rfl (by omega) (fun o ho => by simp at ho) (by omega)
  rw [new_some k (by omega), Option.bind_some, e1, Option.bind_some]
  simp only
  rw [show (0 : Int) = ((0 : Nat) : Int) from rfl, e2, Option.bind_some]
  simp only
  obtain ⟨T, E, live, e3, hF, g1, g2, g3⟩ := draw_loop s p2 L hl hL L.length k 0 _ [] 0 (by omega) (by omega) fine_new (by omega) (by simp) (by simp)
  exact ⟨T, E, live, p2, e3, hF, g1, g2, g3, h2⟩
structure Small (T : List Int) (E : List S62) : Prop where
  t : T.length ≤ 2700
  e : E.length ≤ 2700
  h : ∀ e ∈ E, 0 ≤ e.f0 ∧ e.f0 ≤ 18446744073709551615
theorem Small.set {T : List Int} {E : List S62} (h : Small T E) (i : Nat) (x : S62) (hx : 0 ≤ x.f0 ∧ x.f0 ≤ 18446744073709551615) : Small T (E.set i x) :=
  ⟨h.t, by rw [List.length_set]; exact h.e, fun e he => by
    rcases List.mem_or_eq_of_mem_set he with h4 | rfl
    · exact h.h e h4
    · exact hx⟩
theorem rd62_mem {E : List S62} (i : Int) (h0 : 0 ≤ i) (h1 : i < E.length) : rd_T62 E i ∈ E := by
  have : rd_T62 E i = E[i.toNat]'(by omega) := by simp [rd_T62, List.getElem?_eq_getElem (show i.toNat < E.length by omega)]
  rw [this]
  exact List.getElem_mem _
theorem bits_rng (op : BinOp) (a b : Int) : 0 ≤ Go.bits op .u64 a b ∧ Go.bits op .u64 a b ≤ 18446744073709551615 := by
  unfold Go.bits
  exact u64_rng _
theorem word_loop {L : List Int} (d : Nat) : ∀ (k : Nat) (i : Nat) (x p : Int), Rd L p → i + d = 8 → d < k → (0 ≤ x ∧ x ≤ 18446744073709551615) → ∃ v p', spec_l1Rd_word.l0 k x (i : Int) L p = some (v, p') ∧ Rd L p' ∧ 0 ≤ v ∧ v ≤ 18446744073709551615 := by
  induction d with
  | zero =>
    intro k i x p h h1 h2 hx
    obtain ⟨k, rfl⟩ : ∃ m, k = m + 1 := ⟨k - 1, by omega⟩
    rw [spec_l1Rd_word.l0, if_neg (by omega)]
    exact ⟨_, _, rfl, h, hx⟩
  | succ d ih =>
    intro k i x p h h1 h2 hx
    obtain ⟨k, rfl⟩ : ∃ m, k = m + 1 := ⟨k - 1, by omega⟩
    obtain ⟨v, p', e, _, _, h'⟩ := next_some h
    rw [spec_l1Rd_word.l0, if_pos (by omega), e, Option.bind_some]
    dsimp only
    rw [wrap_in ((i : Int) + 1) (by omega) (by omega)]
    exact ih k (i + 1) _ p' h' (by omega) (by omega) (bits_rng _ _ _)
theorem word_some {L : List Int} {p : Int} (h : Rd L p) (k : Nat) (hk : 10 ≤ k) : ∃ v p', spec_l1Rd_word.f k L p = some (v, p') ∧ Rd L p' ∧ 0 ≤ v ∧ v ≤ 18446744073709551615 := word_loop 8 k 0 0 p h (by omega) (by omega) (by omega)
theorem hash_some {s : List Int} {p : Int} (h : Rd s p) (k : Nat) (hk : 10 ≤ k) : ∃ v p', spec_l7DrawHash.f k s p = some (v, p') ∧ Rd s p' ∧ 0 ≤ v ∧ v ≤ 18446744073709551615 := by
  unfold spec_l7DrawHash.f
  obtain ⟨b, p1, e1, h1⟩ := once_some h 5 (by omega)
  rw [e1, Option.bind_some]
  dsimp only
  cases b with
  | true =>
    obtain ⟨v, p2, e2, h2, hv⟩ := word_some h1 k hk
    rw [if_pos rfl, e2, Option.bind_some]
    exact ⟨_, _, rfl, h2, hv⟩
  | false =>
    obtain ⟨v, p2, e2, v0, v1, h2⟩ := below_some h1 12 (by omega)
    obtain ⟨u, p3, e3, u0, u1, h3⟩ := below_some h2 5 (by omega)
    have hlen : (([1, 8, 32, 32, 1152921504606846976] : List Int).length : Int) = 5 := rfl
    rw [if_neg (by simp), e2, Option.bind_some, Option.bind_some]
    dsimp only
    rw [e3, Option.bind_some]
    dsimp only
    rw [if_pos u0, if_pos (by rw [hlen]; omega)]
    exact ⟨_, _, rfl, h3, u64_rng _⟩
theorem any_loop (s : List Int) (p n : Int) (hn : n ≤ 1000) : ∀ (d k i : Nat) (T : List Int) (E : List S62) (live : Int), n.toNat - i = d → 6000000000 + d < k → Small T E → T.length ≤ 1300 → (∃ m, T.length = 2 ^ m) → n < T.length → E.length = i → i ≤ 1000 → (i : Int) < T.length →
    ∃ (T' : List Int) (E' : List S62) (l' : Int), spec_l7DrawAny.l0 k n (i : Int) s p T E live = some (T', E', l', p) ∧ Small T' E'
  | 0, k, i, T, E, live, h1, h2, hS, hT, hm, hnT, hE, hi, hiT => by
    obtain ⟨k, rfl⟩ : ∃ m, k = m + 1 := ⟨k - 1, by omega⟩
    obtain ⟨m, hm⟩ := hm
    have h65 : T.length ≤ 65536 := by omega
    have hlt : E.length < T.length := by omega
    rw [spec_l7DrawAny.l0, if_neg (by omega), spec_table m T.length hm h65 E hlt hS.h k (by omega)]
    obtain ⟨T', e, hI⟩ := tab_ok m T.length hm h65 E hlt hS.h E.length 0 (by omega) (List.replicate T.length (-1)) (inv_zero _ _)
    have hl := tab_length _ _ _ _ e
    rw [List.drop_zero] at e
    rw [show ((0 : Nat) : Int) = 0 from rfl] at e
    rw [e, Option.bind_some]
    exact ⟨T', E, live, rfl, ⟨by rw [hI.len]; exact hS.t, hS.e, hS.h⟩⟩
  | d + 1, k, i, T, E, live, h1, h2, hS, hT, hm, hnT, hE, hi, hiT => by
    obtain ⟨k, rfl⟩ : ∃ m, k = m + 1 := ⟨k - 1, by omega⟩
    rw [spec_l7DrawAny.l0, if_pos (by omega), if_pos (by omega), wrap_in ((i : Int) + 1) (by omega) (by omega), show (i : Int) + 1 = ((i + 1 : Nat) : Int) by omega]
    refine any_loop s p n hn d k (i + 1) T _ _ (by omega) (by omega) ⟨hS.t, by rw [List.length_append, List.length_singleton]; omega, fun e he => ?_⟩ hT hm hnT (by rw [List.length_append, List.length_singleton]; omega) (by omega) (by omega)
    rcases List.mem_append.1 he with h4 | h4
    · exact hS.h e h4
    · rw [List.mem_singleton.1 h4]
      exact u64_rng _
theorem any_some {s : List Int} {p : Int} (h : Rd s p) (k : Nat) (hk : 6000002000 ≤ k) : ∃ (T : List Int) (E : List S62) (live p' : Int), spec_l7DrawAny.f k s p = some (T, E, live, p') ∧ Small T E ∧ Rd s p' := by
  unfold spec_l7DrawAny.f
  obtain ⟨T, E, live, p1, e1, hF, g1, g2, g3, h1⟩ := l7Draw_some h k (by omega)
  obtain ⟨b, p2, e2, h2⟩ := once_some h1 4 (by omega)
  obtain ⟨s8, s6, sl, l0, l1⟩ := hF.good.sizes
  have hS : Small T E := ⟨by omega, by omega, hF.good.h⟩
  have hw : wrap64 (Int.tdiv (wrap64 ((T.length : Int) * 2)) 3) = 2 * T.length / 3 := by
    rw [wrap_in ((T.length : Int) * 2) (by omega) (by omega), Int.tdiv_eq_ediv_of_nonneg (by omega), wrap_in _ (by omega) (by omega)]
    omega
  have HW := Aside0.mk hw
  clear hw
  rw [e1, Option.bind_some]
  dsimp only
  rw [e2, Option.bind_some]
  dsimp only
  cases b with
  | false =>
    rw [if_neg (by simp)]
    exact ⟨_, _, _, _, rfl, hS, h2⟩
  | true =>
    obtain ⟨q, p3, e3, q0, q1, h3⟩ := below_some h2 8 (by omega)
    rw [if_pos rfl, e3, Option.bind_some]
    dsimp only
    by_cases c7 : q = 7
    · obtain ⟨u, p4, e4, u0, u1, h4⟩ := below_some h3 2 (by omega)
      rw [if_pos c7, e4, Option.bind_some]
      dsimp only
      rw [HW.out, wrap_in _ (by omega) (by omega)]
      obtain ⟨m, m3, m16, hm⟩ := hF.good.pw
      obtain ⟨T', E', l', e5, hS'⟩ := any_loop s p4 (2 * T.length / 3 + u) (by omega) _ k E.length T E live rfl (by omega) hS g3 ⟨m, hm⟩ (by omega) rfl (by omega) (by omega)
      exact ⟨T', E', l', p4, e5, hS', h4⟩
    · rw [if_neg c7]
      by_cases c0 : q = 0
      · rw [if_pos c0]
        exact ⟨_, _, _, _, rfl, hS, h3⟩
      · rw [if_neg c0]
        obtain ⟨k, rfl⟩ : ∃ m, k = m + 2 := ⟨k - 2, by omega⟩
        have hj2 : ∀ b : Bool, (b = true → 0 < E.length) → ∃ (T' : List Int) (E' : List S62) (live' p' : Int), spec_l7DrawAny.j2 (k + 1) q b s p3 T E live = some (T', E', live', p') ∧ Small T' E' ∧ Rd s p' := fun b hb => by
          rw [spec_l7DrawAny.j2]
          cases b with
          | true =>
            have hpos := hb rfl
            obtain ⟨u, p4, e4, u0, u1, h4⟩ := below_some h3 (E.length : Int) (by omega)
            rw [if_pos rfl, e4, Option.bind_some]
            dsimp only
            rw [if_pos u0, if_pos (by omega)]
            exact ⟨_, _, _, _, rfl, hS.set _ _ (bits_rng .xor (rd_T62 E u).f0 1), h4⟩
          | false =>
            rw [if_neg (by simp)]
            by_cases c3 : q = 3
            · obtain ⟨u, p4, e4, u0, u1, h4⟩ := below_some h3 (T.length : Int) (by omega)
              obtain ⟨v, p5, e5, v0, v1, h5⟩ := below_some h4 5 (by omega)
              rw [if_pos c3, e4, Option.bind_some]
              dsimp only
              rw [e5, Option.bind_some]
              dsimp only
              rw [if_pos u0, if_pos (by omega)]
              exact ⟨_, _, _, _, rfl, ⟨by rw [List.length_set]; exact hS.t, hS.e, hS.h⟩, h5⟩
            · rw [if_neg c3]
              by_cases c4 : q = 4
              · rw [if_pos c4, if_pos (by omega)]
                exact ⟨_, _, _, _, rfl, ⟨by rw [List.length_append, List.length_singleton]; omega, hS.e, hS.h⟩, h3⟩
              · rw [if_neg c4]
                by_cases c5 : q = 5
                · rw [if_pos c5, if_pos (by omega)]
                  exact ⟨_, _, _, _, rfl, ⟨by rw [List.length_append]; omega, hS.e, hS.h⟩, h3⟩
                · rw [if_neg c5]
                  exact ⟨_, _, _, _, rfl, ⟨by simp, by simp, fun e he => by simp at he⟩, h3⟩
        have hj1 : ∀ b : Bool, (b = true → 0 < E.length) → ∃ (T' : List Int) (E' : List S62) (live' p' : Int), spec_l7DrawAny.j1 (k + 2) q b s p3 T E live = some (T', E', live', p') ∧ Small T' E' ∧ Rd s p' := fun b hb => by
          rw [spec_l7DrawAny.j1]
          cases b with
          | true =>
            have hpos := hb rfl
            obtain ⟨u, p4, e4, u0, u1, h4⟩ := below_some h3 (E.length : Int) (by omega)
            obtain ⟨v, p5, e5, v0, v1, h5⟩ := below_some h4 30 (by omega)
            rw [if_pos rfl, e4, Option.bind_some]
            dsimp only
            rw [e5, Option.bind_some]
            dsimp only
            rw [if_pos u0, if_pos (by omega)]
            have hmem := hS.h _ (rd62_mem (E := E) u u0 (by omega))
            exact ⟨_, _, _, _, rfl, hS.set _ _ hmem, h5⟩
          | false =>
            rw [if_neg (by simp)]
            by_cases c2 : q = 2
            · rw [if_pos c2]
              exact hj2 _ (fun e => by simpa using e)
            · rw [if_neg c2]
              exact hj2 false (fun e => by cases e)
        by_cases c1 : q = 1
        · rw [if_pos c1]
          exact hj1 _ (fun e => by simpa using e)
        · rw [if_neg c1]
          exact hj1 false (fun e => by cases e)
theorem key_some {s : List Int} {p : Int} (h : Rd s p) {T : List Int} {E : List S62} (hS : Small T E) (live : Int) (k : Nat) (hk : 20 ≤ k) : ∃ (hash key p' : Int), spec_l7DrawKey.f k s p T E live = some (hash, key, p') ∧ 0 ≤ hash ∧ hash ≤ 18446744073709551615 := by
  unfold spec_l7DrawKey.f
  obtain ⟨k, rfl⟩ : ∃ m, k = m + 1 := ⟨k - 1, by omega⟩
  have hj : ∀ (b : Bool) (q : Int), Rd s q → (b = true → 0 < E.length) → ∃ (hash key p' : Int), spec_l7DrawKey.j0 (k + 1) b s q T E live = some (hash, key, p') ∧ 0 ≤ hash ∧ hash ≤ 18446744073709551615 := fun b q hq hb => by
    have hEl := hS.e
    rw [spec_l7DrawKey.j0]
    cases b with
    | true =>
      have hpos := hb rfl
      obtain ⟨u, p4, e4, u0, u1, h4⟩ := below_some hq (E.length : Int) (by omega)
      rw [if_pos rfl, e4, Option.bind_some]
      dsimp only
      rw [if_pos u0, if_pos (by omega)]
      exact ⟨_, _, _, rfl, hS.h _ (rd62_mem u u0 (by omega))⟩
    | false =>
      obtain ⟨v, p1, e1, h1, hv⟩ := hash_some hq k (by omega)
      obtain ⟨u, p2, e2, u0, u1, h2⟩ := below_some h1 30 (by omega)
      rw [if_neg (by simp), e1, Option.bind_some]
      dsimp only
      rw [e2, Option.bind_some]
      exact ⟨_, _, _, rfl, hv⟩
  by_cases hc : (E.length : Int) > 0
  · obtain ⟨b, p1, e1, h1⟩ := once_some h 3 (by omega)
    rw [if_pos hc, e1, Option.bind_some]
    exact hj _ p1 h1 (fun _ => by omega)
  · rw [if_neg hc]
    exact hj false p h (fun e => by cases e)
theorem drawPut_some (s : List Int) (hb : ∀ x ∈ s, 0 ≤ x ∧ x ≤ 255) (hl : s.length ≤ 1048576) (k : Nat) (hk : 6000002000 ≤ k) :
    ∃ (T : List Int) (E : List S62) (live hash key val : Int), spec_DrawDictPut.f k s = some (T, E, live, hash, key, val) ∧ Small T E ∧ 0 ≤ hash ∧ hash ≤ 18446744073709551615 := by
  unfold spec_DrawDictPut.f spec_DrawDictFind.f spec_l1Open.f
  obtain ⟨T, E, live, p1, e1, hS, h1⟩ := any_some (⟨hb, hl, by omega, by omega⟩ : Rd s 0) k hk
  obtain ⟨hash, key, p2, e2, hh⟩ := key_some h1 hS live k (by omega)
  rw [Option.bind_some]
  dsimp only
  rw [e1, Option.bind_some]
  dsimp only
  rw [e2, Option.bind_some, Option.bind_some]
  exact ⟨_, _, _, _, _, _, rfl, hS, hh⟩
end Go.Proofs.Ytohilfkdfcihgaa.DictK
