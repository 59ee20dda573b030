/- A put and a cut leave a dict well formed, and leave all other keys in their order. Plain law; no condition beyond those of the theorems. -/
import Derived.Test.YtohilfkdfcihgaaKeptA
set_option linter.unusedVariables false
set_option linter.unusedSimpArgs false
namespace Go.Proofs.Ytohilfkdfcihgaa.DictT
open Go.RowKit Go.Proofs.Ytohilfkdfcihgaa.PDi Go.Proofs.YtohilfkdfcihgaaW.PrintWords Go.Proofs.YtohilfkdfcihgaaW.PrintLast Go.Proofs.YtohilfkdfcihgaaW.PrintMore
theorem gz_iff : ∀ E : List S62, gzB E = true ↔ ∀ e ∈ E, e.f3 = true → e.f1 = 0 ∧ e.f2 = 0
  | [] => by simp [gzB]
  | e :: r => by
    rw [gzB, Bool.and_eq_true, gz_iff r]
    constructor
    · rintro ⟨h1, h2⟩ x hx h3
      rcases List.mem_cons.1 hx with rfl | hx
      · rw [h3] at h1
        simpa using h1
      · exact h2 x hx h3
    · intro h
      refine ⟨?_, fun x hx => h x (List.mem_cons_of_mem _ hx)⟩
      have := h e List.mem_cons_self
      cases h3 : e.f3 with
      | false => rfl
      | true => simpa using this h3
theorem gz_set {E : List S62} (h : gzB E = true) (n : Nat) (x : S62) (hx : x.f3 = true → x.f1 = 0 ∧ x.f2 = 0) : gzB (E.set n x) = true := by
  rw [gz_iff] at h ⊢
  intro e he h3
  rcases List.mem_or_eq_of_mem_set he with h4 | rfl
  · exact h e h4 h3
  · exact hx h3
theorem gz_alive (E : List S62) (x : S62) (hx : x.f3 = false) : gzB (E.filter alive ++ [x]) = true := by
  rw [gz_iff]
  intro e he h3
  rcases List.mem_append.1 he with h4 | h4
  · have := (List.mem_filter.1 h4).2
    rw [alive, h3] at this
    cases this
  · rw [List.mem_singleton.1 h4, hx] at h3
    cases h3
theorem gz_more {E : List S62} (h : gzB E = true) (x : S62) (hx : x.f3 = false) : gzB (E ++ [x]) = true := by
  rw [gz_iff] at h ⊢
  intro e he h3
  rcases List.mem_append.1 he with h4 | h4
  · exact h e h4 h3
  · rw [List.mem_singleton.1 h4, hx] at h3
    cases h3
theorem livek_liv : ∀ E : List S62, livek E = (liv E).map ky
  | [] => rfl
  | e :: r => by
    unfold liv
    rw [livek]
    cases h : e.f3 with
    | true =>
      rw [if_pos rfl, List.filter_cons_of_neg (by simp [alive, h])]
      exact livek_liv r
    | false =>
      rw [if_neg (by simp), List.filter_cons_of_pos (by simp [alive, h]), List.map_cons, List.map_cons, livek_liv r]
      rfl
theorem nd_iff : ∀ (E : List S62) (S : List (Int × Int)), ndB E S = true ↔ (∀ k ∈ livek E, k ∉ S) ∧ (livek E).Nodup
  | [], S => by simp [ndB, livek]
  | e :: r, S => by
    rw [ndB, livek]
    cases h : e.f3 with
    | true =>
      rw [if_pos rfl, if_pos rfl]
      exact nd_iff r S
    | false =>
      rw [if_neg (by simp), if_neg (by simp), Bool.and_eq_true, nd_iff r, List.nodup_cons]
      simp only [Bool.not_eq_true', decide_eq_false_iff_not, List.mem_cons, List.mem_append, List.not_mem_nil, or_false, forall_eq_or_imp]
      constructor
      · rintro ⟨h1, h2, h3⟩
        exact ⟨⟨h1, fun k hk hs => h2 k hk (.inl hs)⟩, fun hm => h2 _ hm (.inr rfl), h3⟩
      · rintro ⟨⟨h1, h2⟩, h3, h4⟩
        refine ⟨h1, fun k hk hs => ?_, h4⟩
        rcases hs with hs | rfl
        · exact h2 k hk hs
        · exact h3 hk
structure Fine (T : List Int) (E : List S62) (live : Int) : Prop where
  good : Good T E live
  gz : gzB E = true
  nd : ((liv E).map ky).Nodup
theorem fine_ok {T : List Int} {E : List S62} {live : Int} (h : Fine T E live) : impl_DictOk.f T E live = some true := by
  obtain ⟨s8, s6, sl, l0, l1⟩ := h.good.sizes
  obtain ⟨m, m3, m16, hm⟩ := h.good.pw
  have hsz : sizeOk (T.length : Int) = true := by rw [hm]; exact size_of_pow m (by omega) m3
  clear hm
  unfold impl_DictOk.f
  rw [if_pos ⟨h.good.h, by omega, by omega⟩, if_pos ⟨hsz, h.good.le⟩, okLoop_eq T live T E 0 _ 0 [] h.good.t, h.gz, (nd_iff E []).2 ⟨by simp, by rw [livek_liv]; exact h.nd⟩, h.good.c]
  simp
theorem ok_fine {T : List Int} {E : List S62} {live : Int} (hT : T.length < 1000000000000) (hE : E.length < 1000000000000) (hH : ∀ e ∈ E, 0 ≤ e.f0 ∧ e.f0 ≤ 18446744073709551615) :
    ∃ b, impl_DictOk.f T E live = some b ∧ (∀ k, 6000000000 ≤ k → spec_DictOk.f k T E live = some b) ∧ (b = true → Fine T E live) := by
  obtain ⟨b, h1, h2, h3⟩ := ok_both T E live hT hE hH
  refine ⟨b, h1, h2, fun hb => ?_⟩
  obtain ⟨m, m3, m16, hm, hle, hlt, h6, ht, hI, hgz, hnd, hc⟩ := h3 hb
  exact ⟨⟨⟨m, m3, m16, hm⟩, hle, hH, ht, hI, hc⟩, hgz, by rw [← livek_liv]; exact ((nd_iff E []).1 hnd).2⟩
theorem fine_spec {T : List Int} {E : List S62} {live : Int} (h : Fine T E live) (k : Nat) (hk : 6000000000 ≤ k) : spec_DictOk.f k T E live = some true := by
  obtain ⟨s8, s6, sl, l0, l1⟩ := h.good.sizes
  obtain ⟨b, h1, h2, _⟩ := ok_both T E live (by omega) (by omega) h.good.h
  rw [h2 k hk, ← h1, fine_ok h]
theorem lay1_length {n : Nat} {T T' : List Int} {i h : Int} (e : lay1 n T i h = some T') : T'.length = T.length := by
  unfold lay1 at e
  have key : ∀ (f : Nat) (T : List Int) (s k : Int), probe (layStep i) h n f T s k = some T' → T'.length = T.length := by
    intro f
    induction f with
    | zero => intro T s k e; simp [probe] at e
    | succ f ih =>
      intro T s k e
      rw [probe] at e
      unfold layStep at e
      by_cases hc : rd T s ≥ 0
      · rw [if_pos hc, if_pos rfl] at e
        exact ih _ _ _ e
      · rw [if_neg hc, if_neg (by simp)] at e
        rw [← Option.some.inj e]
        simp
  exact key _ _ _ _ e
theorem tab_length {n : Nat} : ∀ (E : List S62) (i : Int) (T T' : List Int), tab n E i T = some T' → T'.length = T.length
  | [], i, T, T', e => by rw [tab] at e; rw [Option.some.inj e]
  | x :: r, i, T, T', e => by
    rw [tab] at e
    cases h : lay1 n T i x.f0 with
    | none => rw [h] at e; cases e
    | some T1 =>
      rw [h, Option.bind_some] at e
      rw [tab_length r _ _ _ e, lay1_length h]
theorem growO_le : ∀ (f : Nat) (n l N : Int), 0 ≤ l → growO f n l = some N → N ≤ n ∨ N ≤ 6 * l
  | 0, n, l, N, _, e => by simp [growO] at e
  | f + 1, n, l, N, h0, e => by
    rw [growO] at e
    by_cases hc : n ≤ 3 * l
    · rw [if_pos hc] at e
      rcases growO_le f _ l N h0 e with h | h
      · exact .inr (by omega)
      · exact .inr h
    · rw [if_neg hc] at e
      rw [← Option.some.inj e]
      exact .inl (Int.le_refl _)
theorem put_shape {T : List Int} {E : List S62} {live : Int} (h : Good T E live) (hg : gzB E = true) (hash key val : Int) (h0 : 0 ≤ hash) (h1 : hash ≤ 18446744073709551615) {T' : List Int} {E' : List S62} {l' : Int} {ok : Bool}
    (e : yputM T E live hash key val = some (T', E', l', ok)) : gzB E' = true ∧ E'.length ≤ E.length + 1 ∧ ((T'.length : Int) ≤ T.length ∨ (T'.length : Int) ≤ 8 ∨ (T'.length : Int) ≤ 6 * live) := by
  obtain ⟨s8, s6, sl, l0, l1⟩ := h.sizes
  obtain ⟨p, q, hf1, hq, hpp⟩ := h.look hash key h0 h1
  unfold yputM at e
  split at e
  case isFalse => cases e
  rw [hf1, Option.bind_some] at e
  simp only at e
  rcases hpp with ⟨rfl, _⟩ | ⟨n, rfl, hn, hal, _⟩
  · rw [if_neg (by omega)] at e
    split at e
    · cases hgr : growO 40 8 live with
      | none => rw [hgr] at e; cases e
      | some N =>
        rw [hgr, Option.bind_some] at e
        have hle := growO_le 40 8 live N l0 hgr
        split at e
        · simp only [Option.some.injEq, Prod.mk.injEq] at e
          obtain ⟨rfl, rfl, _⟩ := e
          exact ⟨hg, by omega, .inl (Int.le_refl _)⟩
        · have hrl : (List.replicate N.toNat (-1 : Int)).length = N.toNat := by simp
          rw [reLay_eq N.toNat E _ [] hrl] at e
          cases ht : tab N.toNat (E.filter alive) (([] : List S62).length) (List.replicate N.toNat (-1)) with
          | none => rw [ht] at e; cases e
          | some T1 =>
            rw [ht, Option.bind_some, Option.bind_some, put2_eq] at e
            simp only [List.nil_append] at e
            have hl1 := tab_length _ _ _ _ ht
            cases hl : lay1 T1.length T1 (E.filter alive).length hash with
            | none => rw [hl] at e; cases e
            | some T2 =>
              rw [hl, Option.bind_some] at e
              simp only [Option.some.injEq, Prod.mk.injEq] at e
              obtain ⟨rfl, rfl, _⟩ := e
              have hl2 := lay1_length hl
              refine ⟨gz_alive E _ rfl, ?_, ?_⟩
              · rw [List.length_append]
                have := List.length_filter_le alive E
                simp only [List.length_singleton]
                omega
              · rw [hl2, hl1, hrl]
                omega
    · rw [put2_eq] at e
      cases hl : lay1 T.length T E.length hash with
      | none => rw [hl] at e; cases e
      | some T2 =>
        rw [hl, Option.bind_some] at e
        simp only [Option.some.injEq, Prod.mk.injEq] at e
        obtain ⟨rfl, rfl, _⟩ := e
        exact ⟨gz_more hg _ rfl, by simp, .inl (by rw [lay1_length hl]; exact Int.le_refl _)⟩
  · rw [if_pos (by omega), if_pos (by omega)] at e
    simp only [Option.some.injEq, Prod.mk.injEq] at e
    obtain ⟨rfl, rfl, _⟩ := e
    refine ⟨gz_set hg _ _ (fun h3 => ?_), by rw [List.length_set]; omega, .inl (Int.le_refl _)⟩
    simp only at h3
    rw [alive, h3] at hal
    cases hal
theorem cut_shape {T : List Int} {E : List S62} {live : Int} (hg : gzB E = true) (hash key : Int) {T' : List Int} {E' : List S62} {l' : Int} {ok : Bool}
    (e : ycutM T E live hash key = some (T', E', l', ok)) : gzB E' = true ∧ E'.length = E.length ∧ T' = T := by
  unfold ycutM at e
  split at e
  case isFalse => cases e
  cases hf : impl_yfind.f T E live hash key with
  | none => rw [hf] at e; cases e
  | some pr =>
    rw [hf, Option.bind_some] at e
    split at e
    · split at e
      · simp only [Option.some.injEq, Prod.mk.injEq] at e
        obtain ⟨rfl, rfl, _⟩ := e
        exact ⟨gz_set hg _ _ (fun _ => ⟨rfl, rfl⟩), by simp, rfl⟩
      · cases e
    · simp only [Option.some.injEq, Prod.mk.injEq] at e
      obtain ⟨rfl, rfl, _⟩ := e
      exact ⟨hg, rfl, rfl⟩
theorem same_of_key {L : List (Int × Int × Int)} (h : (L.map ky).Nodup) {x y : Int × Int × Int} (hx : x ∈ L) (hy : y ∈ L) (e : ky x = ky y) : x = y := by
  induction L with
  | nil => cases hx
  | cons a L ih =>
    rw [List.map_cons, List.nodup_cons] at h
    rcases List.mem_cons.1 hx with rfl | hx
    · rcases List.mem_cons.1 hy with rfl | hy
      · rfl
      · exact absurd (List.mem_map.2 ⟨y, hy, e.symm⟩) h.1
    · rcases List.mem_cons.1 hy with h5 | hy
      · exact absurd (List.mem_map.2 ⟨x, hx, by rw [e, h5]⟩ : ky a ∈ L.map ky) h.1
      · exact ih h.2 hx hy
def wo (hash key : Int) (L : List (Int × Int × Int)) : List (Int × Int × Int) := L.filter (fun x => !decide (ky x = (hash, key)))
theorem wo_none {hash key : Int} {L : List (Int × Int × Int)} (h : (hash, key) ∉ L.map ky) : wo hash key L = L := by
  unfold wo
  rw [List.filter_eq_self]
  intro x hx
  have : ky x ≠ (hash, key) := fun e => h (List.mem_map.2 ⟨x, hx, e⟩)
  simp [this]
theorem wo_mid {hash key v : Int} {A B : List (Int × Int × Int)} (h : ((A ++ (hash, key, v) :: B).map ky).Nodup) : wo hash key (A ++ (hash, key, v) :: B) = A ++ B := by
  rw [List.map_append, List.map_cons, List.nodup_append, List.nodup_cons] at h
  obtain ⟨_, ⟨h2, _⟩, h3⟩ := h
  have hA : (hash, key) ∉ A.map ky := fun hm => h3 _ hm _ List.mem_cons_self rfl
  have e1 : wo hash key (A ++ (hash, key, v) :: B) = wo hash key A ++ wo hash key B := by
    unfold wo
    rw [List.filter_append, List.filter_cons_of_neg (by simp [ky])]
  rw [e1, wo_none hA, wo_none h2]
theorem nodup_mid {hash key v v' : Int} {A B : List (Int × Int × Int)} (h : ((A ++ (hash, key, v) :: B).map ky).Nodup) : ((A ++ (hash, key, v') :: B).map ky).Nodup := by
  rw [List.map_append, List.map_cons] at h ⊢
  exact h
theorem nodup_out {hash key v : Int} {A B : List (Int × Int × Int)} (h : ((A ++ (hash, key, v) :: B).map ky).Nodup) : ((A ++ B).map ky).Nodup := by
  rw [List.map_append] at h ⊢
  rw [List.map_cons] at h
  exact (List.nodup_append.2 ⟨(List.nodup_append.1 h).1, (List.nodup_cons.1 (List.nodup_append.1 h).2.1).2, fun x hx y hy => (List.nodup_append.1 h).2.2 x hx y (List.mem_cons_of_mem _ hy)⟩)
theorem nodup_end {hash key v : Int} {L : List (Int × Int × Int)} (h : (L.map ky).Nodup) (hn : (hash, key) ∉ L.map ky) : ((L ++ [(hash, key, v)]).map ky).Nodup := by
  rw [List.map_append, List.nodup_append]
  refine ⟨h, by simp, fun x hx y hy e => ?_⟩
  simp [ky] at hy
  rw [e, hy] at hx
  exact hn hx
theorem Fine.put {T : List Int} {E : List S62} {live : Int} (h : Fine T E live) (hash key val : Int) (h0 : 0 ≤ hash) (h1 : hash ≤ 18446744073709551615) (hlv : live ≤ 3000) :
    ∃ (T' : List Int) (E' : List S62) (l' : Int), yputM T E live hash key val = some (T', E', l', true) ∧ Fine T' E' l' ∧ (hash, key, val) ∈ liv E' ∧ wo hash key (liv E') = wo hash key (liv E) ∧ (l' = live ∨ l' = live + 1) ∧
      E'.length ≤ E.length + 1 ∧ ((T'.length : Int) ≤ T.length ∨ (T'.length : Int) ≤ 8 ∨ (T'.length : Int) ≤ 6 * live) := by
  rcases h.good.putM hash key val h0 h1 hlv with ⟨A, B, v, E', e, hG, e1, e2⟩ | ⟨T', E', e, hG, hn, e2⟩
  · obtain ⟨g1, g2, g3⟩ := put_shape h.good h.gz hash key val h0 h1 e
    have hnd := h.nd
    rw [e1] at hnd
    refine ⟨_, _, _, e, ⟨hG, g1, by rw [e2]; exact nodup_mid hnd⟩, by rw [e2]; simp, ?_, .inl rfl, g2, g3⟩
    rw [e1, e2, wo_mid hnd, wo_mid (nodup_mid hnd)]
  · obtain ⟨g1, g2, g3⟩ := put_shape h.good h.gz hash key val h0 h1 e
    have hnd := nodup_end (v := val) h.nd hn
    refine ⟨_, _, _, e, ⟨hG, g1, by rw [e2]; exact hnd⟩, by rw [e2]; simp, ?_, .inr rfl, g2, g3⟩
    rw [e2, wo_mid hnd, List.append_nil, wo_none hn]
theorem Fine.cut {T : List Int} {E : List S62} {live : Int} (h : Fine T E live) (hash key : Int) (h0 : 0 ≤ hash) (h1 : hash ≤ 18446744073709551615) :
    ∃ (E' : List S62) (l' : Int) (ok : Bool), ycutM T E live hash key = some (T, E', l', ok) ∧ Fine T E' l' ∧ liv E' = wo hash key (liv E) ∧ (hash, key) ∉ (liv E').map ky ∧ (ok = true ↔ (hash, key) ∈ (liv E).map ky) ∧ (l' = live ∨ l' = live - 1) ∧ E'.length = E.length := by
  rcases h.good.cutM hash key h0 h1 with ⟨e, hn⟩ | ⟨A, B, v, E', e, hG, e1, e2⟩
  · exact ⟨E, live, false, e, h, (wo_none hn).symm, hn, by simp [hn], .inl rfl, rfl⟩
  · obtain ⟨g1, g2, _⟩ := cut_shape h.gz hash key e
    have hnd := h.nd
    rw [e1] at hnd
    refine ⟨E', _, true, e, ⟨hG, g1, by rw [e2]; exact nodup_out hnd⟩, by rw [e1, e2, wo_mid hnd], ?_, by rw [e1]; simp [ky], .inr rfl, g2⟩
    rw [e2]
    intro hm
    rw [List.map_append, List.map_cons, List.nodup_append, List.nodup_cons] at hnd
    rw [List.map_append] at hm
    rcases List.mem_append.1 hm with hm | hm
    · exact hnd.2.2 _ hm _ List.mem_cons_self rfl
    · exact hnd.2.1.1 hm
end Go.Proofs.Ytohilfkdfcihgaa.DictT
