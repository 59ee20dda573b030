/- FnSorted: the order is ascending and stable, and a plan told the answers one by one asks the same questions. Plain law; no condition beyond those of the theorems. -/
import Derived.Test.YtdibbgldclgokaaPTx3
import Derived.Test.YtdibbgldclgokaaSortL
import Derived.Test.YtdibbgldclgokaaSortC
namespace Go.Proofs.Ytdibbgldclgokaa.PS
open Go.RowKit Go.Proofs.YtdibbgldclgokaaW.PrintWords Go.Proofs.YtdibbgldclgokaaW.PrintLast Go.Proofs.Ytdibbgldclgokaa.SortM
set_option linter.unusedVariables false
set_option linter.unusedSimpArgs false

theorem wrap_in (i : Int) (h0 : -9223372036854775808 ≤ i) (h1 : i ≤ 9223372036854775807) : wrap64 i = i := by
  unfold wrap64
  omega
/-- A reader at p over the bytes L. -/
structure Rdr (L : List Int) (p : Int) : Prop where
  hb : ∀ x ∈ L, 0 ≤ x ∧ x ≤ 255
  hl : L.length ≤ 140737488351232
  p0 : 0 ≤ p
  p1 : p ≤ L.length

theorem Rdr.mk0 (L : List Int) (hl : L.length ≤ 140737488351232) (hw : ∀ x ∈ L, (Lit.int .u8 x).wf = true) : Rdr L 0 :=
  ⟨fun x hx => by
    have := hw x hx
    simp only [Lit.wf, Bool.and_eq_true, decide_eq_true_eq] at this
    have h1 : IntKind.u8.min = 0 := rfl
    have h2 : IntKind.u8.max = 255 := rfl
    omega, hl, Int.le_refl _, by omega⟩

theorem next_some {L : List Int} {p : Int} (h : Rdr L p) : ∃ v p', spec_l1Rd_next.f L p = some (v, p') ∧ 0 ≤ v ∧ v ≤ 255 ∧ Rdr L p' := by
  obtain ⟨hb, hl, p0, p1⟩ := h
  unfold spec_l1Rd_next.f
  by_cases c : p ≥ (L.length : Int)
  · rw [if_pos c]
    exact ⟨0, p, rfl, by omega, by omega, hb, hl, p0, p1⟩
  · have w1 : wrap64 (p + 1) = p + 1 := wrap_in _ (by omega) (by omega)
    rw [if_neg c, w1, show p + 1 - 1 = p by omega, wrap_in p (by omega) (by omega), if_pos p0, if_pos (by omega)]
    have hi : p.toNat < L.length := by omega
    have hr : rd L p = L[p.toNat] := by
      unfold rd
      rw [List.getD_eq_getElem?_getD, List.getElem?_eq_getElem hi]
      rfl
    have hx := hb _ (List.getElem_mem hi)
    rw [hr, wrap_in _ (by omega) (by omega)]
    exact ⟨_, _, rfl, hx.1, hx.2, hb, hl, by omega, by omega⟩

theorem below_some {L : List Int} {p : Int} (h : Rdr L p) (n : Int) : ∃ v p', spec_l1Rd_below.f L p n = some (v, p') ∧ 0 ≤ v ∧ (v < n ∨ v = 0) ∧ Rdr L p' := by
  unfold spec_l1Rd_below.f
  by_cases c : n ≤ 1
  · rw [if_pos c]
    exact ⟨0, p, rfl, by omega, Or.inr rfl, h⟩
  · rw [if_neg c]
    by_cases c2 : n ≤ 256
    · obtain ⟨v, p', e, v0, v1, h'⟩ := next_some h
      rw [if_pos c2, e, Option.bind_some, if_neg (by omega)]
      refine ⟨_, _, rfl, ?_, Or.inl ?_, h'⟩
      · rw [Int.tmod_eq_emod_of_nonneg v0]; exact Int.emod_nonneg _ (by omega)
      · rw [Int.tmod_eq_emod_of_nonneg v0]; exact Int.emod_lt_of_pos _ (by omega)
    · obtain ⟨v, p', e, v0, v1, h'⟩ := next_some h
      obtain ⟨u, p2, e2, u0, u1, h2⟩ := next_some h'
      rw [if_neg c2, e, Option.bind_some]
      dsimp only
      rw [e2, Option.bind_some, if_neg (by omega)]
      dsimp only
      rw [wrap_in (v * 256) (by omega) (by omega), wrap_in (v * 256 + u) (by omega) (by omega)]
      refine ⟨_, _, rfl, ?_, Or.inl ?_, h2⟩
      · rw [Int.tmod_eq_emod_of_nonneg (by omega)]; exact Int.emod_nonneg _ (by omega)
      · rw [Int.tmod_eq_emod_of_nonneg (by omega)]; exact Int.emod_lt_of_pos _ (by omega)

theorem once_some {L : List Int} {p : Int} (h : Rdr L p) (n : Int) : ∃ b p', spec_l1Rd_once.f L p n = some (b, p') ∧ Rdr L p' := by
  obtain ⟨v, p', e, _, _, h'⟩ := below_some h n
  unfold spec_l1Rd_once.f
  rw [e, Option.bind_some]
  exact ⟨_, _, rfl, h'⟩


theorem size_some {L : List Int} {p : Int} (h : Rdr L p) (per most : Int) (h0 : 1 ≤ per) (h1 : 1 ≤ most) (h2 : most ≤ 1000000) : ∃ v p', spec_l1Rd_size.f L p per most = some (v, p') ∧ 1 ≤ v ∧ v ≤ most ∧ Rdr L p' := by
  have hl := h.hl
  unfold spec_l1Rd_size.f
  have hd : 0 ≤ (L.length : Int) / per ∧ (L.length : Int) / per ≤ (L.length : Int) := ⟨Int.ediv_nonneg (by omega) (by omega), Int.ediv_le_self _ (by omega)⟩
  rw [if_neg (by omega), wrap_in ((L.length : Int) / per) (by omega) (by omega), wrap_in (1 + (L.length : Int) / per) (by omega) (by omega)]
  by_cases c : 1 + (L.length : Int) / per > most
  · obtain ⟨v, p', e, v0, v1, h'⟩ := below_some h most
    rw [if_pos c, e, Option.bind_some]
    dsimp only
    rw [wrap_in (1 + v) (by omega) (by omega)]
    exact ⟨_, _, rfl, by omega, by omega, h'⟩
  · obtain ⟨v, p', e, v0, v1, h'⟩ := below_some h (1 + (L.length : Int) / per)
    rw [if_neg c, e, Option.bind_some]
    dsimp only
    rw [wrap_in (1 + v) (by omega) (by omega)]
    exact ⟨_, _, rfl, by omega, by omega, h'⟩


/-- A draw that comes to at most n numbers. -/
def Few_ (n : Nat) (r : Option (List Int × Int)) : Prop := ∃ t p, r = some (t, p) ∧ t.length ≤ n
theorem drawl1 {L : List Int} (x5 : Int) (h5 : x5 ≤ 120) (p : Int) : ∀ (d k i : Nat) (x6 : List Int), x6.length = x5.toNat → x5 ≤ (i : Int) + d → d < k → i ≤ 200 → Few_ 120 (spec_l8DrawKeys.l1 k x5 x6 (i : Int) L p)
  | d, 0, i, x6, _, _, h, _ => by omega
  | d, k + 1, i, x6, hx, hi, h, hi2 => by
    unfold spec_l8DrawKeys.l1
    by_cases c : (i : Int) < x5
    · have hd : 1 ≤ d := by omega
      rw [if_pos c, if_pos (by omega), if_pos (by omega), wrap_in ((i : Int) + 1) (by omega) (by omega)]
      exact drawl1 x5 h5 p (d - 1) k (i + 1) _ (by rw [List.length_set]; exact hx) (by omega) (by omega) (by omega)
    · rw [if_neg c]
      exact ⟨_, _, rfl, by omega⟩
theorem drawl2 {L : List Int} (x5 : Int) (h5 : x5 ≤ 120) (p : Int) : ∀ (d k i : Nat) (x6 : List Int), x6.length = x5.toNat → x5 ≤ (i : Int) + d → d < k → i ≤ 200 → Few_ 120 (spec_l8DrawKeys.l2 k x5 x6 (i : Int) L p)
  | d, 0, i, x6, _, _, h, _ => by omega
  | d, k + 1, i, x6, hx, hi, h, hi2 => by
    unfold spec_l8DrawKeys.l2
    by_cases c : (i : Int) < x5
    · have hd : 1 ≤ d := by omega
      rw [if_pos c, if_pos (by omega), if_pos (by omega), wrap_in ((i : Int) + 1) (by omega) (by omega)]
      exact drawl2 x5 h5 p (d - 1) k (i + 1) _ (by rw [List.length_set]; exact hx) (by omega) (by omega) (by omega)
    · rw [if_neg c]
      exact ⟨_, _, rfl, by omega⟩
theorem drawl0 {L : List Int} (x5 : Int) (h1 : 1 ≤ x5) (h5 : x5 ≤ 120) : ∀ (d k i : Nat) (x6 : List Int) (p : Int), Rdr L p → x6.length = i → (i : Int) ≤ x5 → x5 ≤ (i : Int) + d → d + 500 < k → Few_ 120 (spec_l8DrawKeys.l0 k x5 x6 (i : Int) L p)
  | d, 0, i, x6, p, _, _, _, _, h => by omega
  | d, k + 1, i, x6, p, hr, hx, hi, hd, h => by
    unfold spec_l8DrawKeys.l0
    by_cases c : (i : Int) < x5
    · have hd1 : 1 ≤ d := by omega
      obtain ⟨v, p', e, _, _, hr'⟩ := below_some hr 20
      rw [if_pos c, e, Option.bind_some]
      dsimp only
      rw [if_pos (by omega), wrap_in ((i : Int) + 1) (by omega) (by omega)]
      exact drawl0 x5 h1 h5 (d - 1) k (i + 1) _ p' hr' (by rw [List.length_append, List.length_singleton, hx]) (by omega) (by omega) (by omega)
    · rw [if_neg c]
      have hl : x6.length = x5.toNat := by omega
      obtain ⟨b, p', e, hr'⟩ := once_some hr 4
      rw [e, Option.bind_some]
      dsimp only
      cases b with
      | true =>
        rw [if_pos rfl]
        exact drawl1 x5 h5 p' 120 k 0 x6 hl (by omega) (by omega) (by omega)
      | false =>
        rw [if_neg (by simp)]
        obtain ⟨b, p2, e, hr2⟩ := once_some hr' 4
        rw [e, Option.bind_some]
        dsimp only
        cases b with
        | true =>
          rw [if_pos rfl]
          exact drawl2 x5 h5 p2 120 k 0 x6 hl (by omega) (by omega) (by omega)
        | false =>
          rw [if_neg (by simp)]
          exact ⟨_, _, rfl, by omega⟩
theorem drawAll {L : List Int} : ∀ (d k : Nat) (x4 : List Int) (p : Int), Rdr L p → 2001 ≤ x4.length + d → x4.length ≤ 2001 → d < k → ∃ t, spec_DrawSortKeys.l0 k x4 L p = some t ∧ t.length ≤ 2001
  | d, 0, x4, p, _, _, _, h => by omega
  | d, k + 1, x4, p, hr, hd, hl, h => by
    unfold spec_DrawSortKeys.l0
    obtain ⟨v, p', e, v0, v1, hr'⟩ := below_some hr 2
    rw [e, Option.bind_some]
    dsimp only
    rw [wrap_in (2000 + v) (by omega) (by omega)]
    by_cases c : (x4.length : Int) < 2000 + v
    · rw [if_pos c, if_pos (by omega)]
      exact drawAll (d - 1) k _ p' hr' (by rw [List.length_append, List.length_singleton]; omega) (by rw [List.length_append, List.length_singleton]; omega) (by omega)
    · rw [if_neg c]
      exact ⟨x4, rfl, hl⟩
theorem draw_keys {L : List Int} (h : Rdr L 0) (k : Nat) (hk : 5000 ≤ k) : ∃ t, spec_DrawSortKeys.f k L = some t ∧ t.length ≤ 2001 := by
  unfold spec_DrawSortKeys.f spec_l1Open.f
  rw [Option.bind_some]
  dsimp only
  obtain ⟨b, p', e, hr'⟩ := once_some h 40
  rw [e, Option.bind_some]
  dsimp only
  cases b with
  | true =>
    rw [if_pos rfl]
    exact drawAll 2001 k [] p' hr' (by simp) (by simp) (by omega)
  | false =>
    rw [if_neg (by simp)]
    unfold spec_l8DrawKeys.f
    obtain ⟨v, p2, e2, v1, v2, hr2⟩ := size_some hr' 3 120 (by omega) (by omega) (by omega)
    rw [e2, Option.bind_some]
    dsimp only
    obtain ⟨t, q, e3, hl⟩ := drawl0 v v1 v2 120 k 0 [] p2 hr2 rfl (by omega) (by omega) (by omega)
    have e4 : spec_l8DrawKeys.l0 k v [] 0 L p2 = some (t, q) := e3
    rw [e4, Option.bind_some]
    exact ⟨t, rfl, by omega⟩

theorem same_some : ∀ (d k i : Nat) (x : List Int), x.length ≤ i + d → d < k → x.length ≤ 1000000 → i ≤ 1000000 → laws_sameInts.l0 k x x (i : Int) = some true
  | d, 0, i, x, _, h, _, _ => by omega
  | d, k + 1, i, x, hd, h, hl, hi => by
    unfold laws_sameInts.l0
    by_cases c : (i : Int) < (x.length : Int)
    · rw [if_pos c, if_pos (by omega), if_pos c, if_pos rfl, wrap_in ((i : Int) + 1) (by omega) (by omega)]
      exact same_some (d - 1) k (i + 1) x (by omega) (by omega) hl (by omega)
    · rw [if_neg c]

section
variable {t L : List Int} {Q : Asked} {N : Nat}

theorem asks_get (T : Asked) (m : Nat) (p : Int × Int) (h : T[m]? = some p) : rd_T34 (asks T) (m : Int) = ⟨p.1, p.2⟩ := by
  unfold rd_T34 asks
  rw [Int.toNat_natCast, List.getD_eq_getElem?_getD, List.getElem?_map, h]
  rfl

/-- The plan that is told the answers one by one. -/
theorem plan_loop (hN : N ≤ 60) (ht : t.length = N) (hs : sort (byKeys t) (N : Int) = (Q, some L)) (hL : L.length = N) (hok : ∀ p ∈ Q, Okp (N : Int) p) (hQ : Q.length ≤ 1000000) : ∀ (d k : Nat) (T : List Bool), T.length ≤ Q.length → Q.length ≤ T.length + d → d + 100 < k →
    (∀ j p, j < T.length → Q[j]? = some p → T[j]? = byKeys t j p.1 p.2) → laws_FnSorted.l1 k t (N : Int) L (Q.length : Int) T = some true
  | d, 0, T, _, _, h, _ => by omega
  | d, k + 1, T, h1, h2, h3, h4 => by
    unfold laws_FnSorted.l1
    obtain ⟨c1, c2⟩ := sort_cut hs T h4
    have hf : impl_SortPlan.f (N : Int) T = some (asks (sort (fun k _ _ => T[k]?) (N : Int)).1, (sort (fun k _ _ => T[k]?) (N : Int)).2.getD [], (sort (fun k _ _ => T[k]?) (N : Int)).2.isSome) := by
      unfold impl_SortPlan.f
      rw [if_neg (by omega)]
      rfl
    rw [hf, Option.bind_some]
    dsimp only
    by_cases c : T.length < Q.length
    · rw [c2 c]
      dsimp only
      obtain ⟨p, hp⟩ : ∃ p, Q[T.length]? = some p := ⟨_, List.getElem?_eq_getElem c⟩
      have hpq := hok p (List.mem_of_getElem? hp)
      obtain ⟨o1, o2, o3, o4, o5⟩ := hpq
      have hlen : (asks (Q.take (T.length + 1))).length = T.length + 1 := by
        show (List.map _ _).length = _
        rw [List.length_map, List.length_take]
        omega
      have hg : rd_T34 (asks (Q.take (T.length + 1))) (T.length : Int) = ⟨p.1, p.2⟩ := asks_get _ _ p (by rw [List.getElem?_take_of_lt (by omega)]; exact hp)
      have hlen2 : ((asks (Q.take (T.length + 1))).length : Int) = (T.length : Int) + 1 := by rw [hlen]; rfl
      rw [Option.isSome_none, if_neg (by simp), hlen2, wrap_in ((T.length : Int) + 1) (by omega) (by omega), if_pos rfl, show (T.length : Int) + 1 - 1 = (T.length : Int) by omega, wrap_in (T.length : Int) (by omega) (by omega), if_pos (by omega), if_pos (by omega), hg]
      dsimp only
      rw [if_neg (by omega), if_neg (by omega), if_neg (by omega), if_neg (by omega), if_neg o5, if_pos o1, if_pos (by omega), if_pos o3, if_pos (by omega), if_pos (by omega)]
      refine plan_loop hN ht hs hL hok hQ (d - 1) k _ (by rw [List.length_append, List.length_singleton]; omega) (by rw [List.length_append, List.length_singleton]; omega) (by omega) (fun j q hj hq => ?_)
      rw [List.length_append, List.length_singleton] at hj
      by_cases hjt : j < T.length
      · rw [List.getElem?_append_left hjt]
        exact h4 j q hjt hq
      · have : j = T.length := by omega
        subst this
        rw [hp] at hq
        injection hq with hq
        subst hq
        rw [List.getElem?_append_right (Nat.le_refl _), Nat.sub_self]
        rfl
    · rw [c1 (by omega)]
      dsimp only
      rw [Option.isSome_some, if_pos rfl, if_pos (by show (((List.map _ Q).length : Nat) : Int) = _; rw [List.length_map]), Option.getD_some]
      unfold laws_sameInts.f
      rw [if_pos rfl]
      have := same_some 60 k 0 L (by omega) (by omega) (by omega) (by omega)
      have e : laws_sameInts.l0 k L L 0 = some true := this
      rw [e]
      rfl

theorem lt_nodup {l : List Int} : ∀ {L : List Int}, L.Pairwise (Lt l) → L.Nodup
  | [], _ => List.Pairwise.nil
  | x :: L, h => by
    obtain ⟨h1, h2⟩ := List.pairwise_cons.1 h
    exact List.nodup_cons.2 ⟨fun hx => (h1 x hx).irrefl, lt_nodup h2⟩

/-- The look at the order. -/
theorem look_loop (hN : N ≤ 2000) (ht : t.length = N) (hs : sort (byKeys t) (N : Int) = (Q, some L)) (hL : L.length = N) (hr : ∀ x ∈ L, 0 ≤ x ∧ x < (N : Int)) (hp : L.Pairwise (Lt t)) (hok : ∀ p ∈ Q, Okp (N : Int) p) : ∀ (d k i : Nat) (S : List Bool), S.length = N → N = i + d → 2 * d + 1000200 < k →
    (∀ v : Nat, S.getD v false = true → (v : Int) ∈ L.take i) → laws_FnSorted.l0 k t (N : Int) L (Q.length : Int) S (i : Int) = some true
  | d, 0, i, S, _, _, h, _ => by omega
  | d, k + 1, i, S, hS, hd, h, hv => by
    unfold laws_FnSorted.l0
    by_cases c : (i : Int) < (N : Int)
    · obtain ⟨d, rfl⟩ : ∃ q, d = q + 1 := ⟨d - 1, by omega⟩
      have hil : i < L.length := by omega
      have hx := hr _ (List.getElem_mem hil)
      have hrd : rd L (i : Int) = L[i] := by
        unfold rd
        rw [Int.toNat_natCast, List.getD_eq_getElem?_getD, List.getElem?_eq_getElem hil]
        rfl
      have hnd := lt_nodup hp
      obtain ⟨x, hxe⟩ : ∃ x, L[i] = x := ⟨_, rfl⟩
      obtain ⟨v, rfl⟩ : ∃ v : Nat, x = (v : Int) := ⟨x.toNat, by omega⟩
      have hnv : S.getD v false = false := by
        cases hq : S.getD v false with
        | false => rfl
        | true =>
          have := hv v hq
          obtain ⟨q, hq1, hq2⟩ := List.getElem_of_mem this
          rw [List.length_take] at hq1
          rw [List.getElem_take] at hq2
          have := (List.getElem_inj (h₀ := by omega) (h₁ := hil) hnd).1 (hq2.trans hxe.symm)
          omega
      rw [if_pos c, if_pos (by omega), if_pos (by omega), hrd, hxe]
      rw [hxe] at hx
      rw [if_neg (by omega), if_neg (by omega), if_pos (by omega), if_pos (by omega)]
      obtain ⟨k, rfl⟩ : ∃ q, k = q + 1 := ⟨k - 1, by omega⟩
      have hnv2 : rdOf false S (v : Int) = false := by unfold rdOf; rw [Int.toNat_natCast]; exact hnv
      rw [hnv2]
      unfold laws_FnSorted.j2
      rw [if_neg (by simp), if_pos (by omega), if_pos (by omega), hrd, hxe, if_pos (by omega), if_pos (by omega), Option.bind_some, Int.toNat_natCast, wrap_in ((i : Int) + 1) (by omega) (by omega)]
      have next : laws_FnSorted.l0 k t (N : Int) L (Q.length : Int) (S.set v true) ((i : Int) + 1) = some true :=
        look_loop hN ht hs hL hr hp hok d k (i + 1) _ (by rw [List.length_set]; exact hS) (by omega) (by omega) (fun u hu => by
          rw [List.take_add_one, List.getElem?_eq_getElem hil, hxe]
          by_cases huv : u = v
          · subst huv; simp
          · rw [List.getD_eq_getElem?_getD, List.getElem?_set_ne (by omega), ← List.getD_eq_getElem?_getD] at hu
            exact List.mem_append_left _ (hv u hu))
      by_cases c0 : (i : Int) > 0
      · obtain ⟨j, rfl⟩ : ∃ j, i = j + 1 := ⟨i - 1, by omega⟩
        have hjl : j < L.length := by omega
        have hlt := List.pairwise_iff_getElem.1 hp j (j + 1) hjl hil (by omega)
        have hy := hr _ (List.getElem_mem hjl)
        have hrj : rd L (j : Int) = L[j] := by
          unfold rd
          rw [Int.toNat_natCast, List.getD_eq_getElem?_getD, List.getElem?_eq_getElem hjl]
          rfl
        rw [hxe] at hlt
        have e1 : (((j + 1 : Nat) : Int) - 1) = (j : Int) := by omega
        rw [if_pos c0, e1, wrap_in (j : Int) (by omega) (by omega), if_pos (by omega), if_pos (by omega), hrj, if_pos (by omega), if_pos (by omega), if_pos (by omega)]
        have hlt2 : rd t L[j] < rd t (v : Int) ∨ (rd t L[j] = rd t (v : Int) ∧ L[j] < (v : Int)) := hlt
        rw [if_neg (by omega)]
        by_cases ce : rd t L[j] = rd t (v : Int)
        · rw [if_pos ce, if_neg (by omega)]
          exact next
        · rw [if_neg ce]
          exact next
      · rw [if_neg c0]
        exact next
    · rw [if_neg c]
      by_cases c60 : (N : Int) > 60
      · rw [if_pos c60]
      · rw [if_neg c60]
        have hQ : Q.length ≤ 1000000 := by
          have := sort_few (byKeys t) N (by omega)
          rw [hs] at this
          exact this
        exact plan_loop (by omega) ht hs hL hok hQ Q.length k [] (by simp) (by simp) (by omega) (fun j p hj _ => by simp at hj)

theorem law_some (l : List Int) (hr : Rdr l 0) (k : Nat) (hk : 2000000 ≤ k) : laws_FnSorted.f k l = some true := by
  unfold laws_FnSorted.f laws_big.f
  rw [Option.bind_some]
  by_cases hb : (l.length : Int) > 1048576
  · rw [if_pos (decide_eq_true hb)]
  · rw [decide_eq_false hb, if_neg (by simp)]
    obtain ⟨t, e, htl⟩ := draw_keys hr k (by omega)
    rw [e, Option.bind_some, Option.bind_some, if_pos (by simp; omega), List.nil_append]
    obtain ⟨N, hN⟩ : ∃ N, t.length = N := ⟨_, rfl⟩
    by_cases c : N > 2000
    · have hf : impl_SortKeys.f t = some ([], -1) := by
        unfold impl_SortKeys.f
        rw [if_pos (by omega)]
      rw [hf, Option.bind_some]
      dsimp only
      rw [if_pos (by omega), if_pos rfl]
      rfl
    · obtain ⟨L, Q, hs, hp, hrg, hL, hok, hcnt⟩ := sort_does (l := t) N
      have hf : impl_SortKeys.f t = some (L, (Q.length : Int)) := by
        unfold impl_SortKeys.f
        rw [if_neg (by omega), hN]
        have : sort (ofKeys t) (N : Int) = (Q, some L) := hs
        rw [this]
        rfl
      have fin : laws_FnSorted.j0 k t (N : Int) L (Q.length : Int) false = some true := by
        obtain ⟨k, rfl⟩ : ∃ q, k = q + 1 := ⟨k - 1, by omega⟩
        unfold laws_FnSorted.j0
        dsimp only
        rw [if_neg (by simp), if_pos (by omega), if_pos (by omega)]
        exact look_loop (by omega) hN hs hL hrg hp hok N k 0 _ (by rw [List.length_replicate]; omega) (by omega) (by omega) (fun v hv => by
          rw [List.getD_eq_getElem?_getD, List.getElem?_replicate] at hv
          split at hv <;> simp at hv)
      rw [hf, Option.bind_some]
      dsimp only
      rw [hN, if_neg (by omega), if_pos (by omega), if_neg (by omega)]
      by_cases c1 : (N : Int) > 1
      · rw [if_pos c1, wrap_in ((N : Int) - 1) (by omega) (by omega), decide_eq_false (by omega)]
        exact fin
      · rw [if_neg c1]
        exact fin
end

end Go.Proofs.Ytdibbgldclgokaa.PS
namespace Go.Proofs.Ytdibbgldclgokaa.Pure
open Go.RowKit Go.Proofs.Ytdibbgldclgokaa.PS

theorem FnSorted : laws_FnSorted.Pure := by
  intro l hm hl hw
  exact ⟨2000000, law_some l (Rdr.mk0 l (by omega) hw) 2000000 (Nat.le_refl _)⟩

end Go.Proofs.Ytdibbgldclgokaa.Pure
