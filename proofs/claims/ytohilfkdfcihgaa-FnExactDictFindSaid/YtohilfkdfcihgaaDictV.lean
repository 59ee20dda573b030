/- What the program's and the reference's DictOk and find come to: the same. Plain law; no condition beyond those of the theorems. -/
import Derived.Test.YtohilfkdfcihgaaDictU
set_option linter.unusedVariables false
set_option linter.unusedSimpArgs false
namespace Go.Proofs.Ytohilfkdfcihgaa.DictT
open Go.RowKit Go.Proofs.Ytohilfkdfcihgaa.PDi Go.Proofs.YtohilfkdfcihgaaW.PrintWords Go.Proofs.YtohilfkdfcihgaaW.PrintLast Go.Proofs.YtohilfkdfcihgaaW.PrintMore

/-! ### The search -/
theorem inv_in {n : Nat} {E : List S62} {T : List Int} (hI : Inv n E E.length T) : ∀ x ∈ T, x < E.length := fun x hx => (hI.hi x hx).2

theorem find_stop (m n : Nat) (hn : n = 2 ^ m) (E : List S62) (hE : E.length < n) (T : List Int) (hI : Inv n E E.length T) (hash key : Int) (h0 : 0 ≤ hash) (h1 : hash ≤ 18446744073709551615) :
    ∃ J, J < 12 + n ∧ Stop T E hash key (path hash n J) ∧ ∀ i, i < J → ¬ Stop T E hash key (path hash n i) := by
  obtain ⟨J0, hJ0, hf0⟩ := free_slot m n hn T hI.len (by have := hI.cnt; omega) hash h0 h1
  obtain ⟨J, hf, hmin⟩ := least (P := fun J => Stop T E hash key (path hash n J)) ⟨J0, Or.inl hf0⟩
  refine ⟨J, ?_, hf, hmin⟩
  by_cases hc : J0 < J
  · exact absurd (Or.inl hf0) (hmin J0 hc)
  · omega

/-- What a search comes to. -/
theorem find_both (m n : Nat) (hn : n = 2 ^ m) (hn6 : n ≤ 65536) (E : List S62) (hE : E.length < n) (T : List Int) (hI : Inv n E E.length T) (live hash key : Int) (h0 : 0 ≤ hash) (h1 : hash ≤ 18446744073709551615) :
    ∃ J, J < 12 + n ∧ Stop T E hash key (path hash n J) ∧ (∀ i, i < J → ¬ Stop T E hash key (path hash n i)) ∧
      impl_yfind.f T E live hash key = some (if rd T (path hash n J) < 0 then -1 else rd T (path hash n J), (J : Int) + 1) ∧
      ∀ k, 100000 ≤ k → spec_l7Find.f k T E live hash key = some (if rd T (path hash n J) < 0 then -1 else rd T (path hash n J), (J : Int) + 1) := by
  have hn0 : 0 < n := by rw [hn]; exact Nat.pos_of_ne_zero (by simp)
  obtain ⟨J, hJ, hs, hmin⟩ := find_stop m n hn E hE T hI hash key h0 h1
  refine ⟨J, hJ, hs, hmin, ?_, ?_⟩
  · unfold impl_yfind.f
    rw [if_pos ⟨by rw [hI.len]; omega, by rw [hI.len]; omega, h0, h1, inv_in hI⟩, hI.len]
    have := probe_find hash key n T E J hs J 1000000 0 0 (by omega) (by omega) (fun i _ hi => hmin i hi)
    rw [Int.zero_add] at this
    exact this
  · intro k hk
    unfold spec_l7Find.f
    have hl : IntKind.u64.wrap (T.length : Int) = n := by rw [hI.len]; exact u64_in _ (by omega) (by omega)
    rw [hl, if_neg (by omega), Int.tmod_eq_emod_of_nonneg h0]
    have := spec_find_loop hash key n live T E h0 h1 (by omega) (by omega) (by rw [hI.len]) (inv_in hI) J (by omega) hs J k 0 (by omega) (by omega) (fun i _ hi => hmin i hi)
    exact this

/-- A search for an entry's own hash and key: finds it exactly if no entry before it that is alive has them. -/
theorem find_own (m n : Nat) (hn : n = 2 ^ m) (E : List S62) (hE : E.length < n) (hH : ∀ e ∈ E, 0 ≤ e.f0 ∧ e.f0 ≤ 18446744073709551615) (T : List Int) (hI : Inv n E E.length T) (j : Nat) (hj : j < E.length) (hlive : (rd_T62 E j).f3 = false) (J : Nat)
    (hs : Stop T E (rd_T62 E j).f0 (rd_T62 E j).f1 (path (rd_T62 E j).f0 n J)) (hmin : ∀ i, i < J → ¬ Stop T E (rd_T62 E j).f0 (rd_T62 E j).f1 (path (rd_T62 E j).f0 n i)) :
    (if rd T (path (rd_T62 E j).f0 n J) < 0 then -1 else rd T (path (rd_T62 E j).f0 n J)) = (j : Int) ↔ ∀ i : Nat, i < j → ¬ ((rd_T62 E i).f3 = false ∧ (rd_T62 E i).f0 = (rd_T62 E j).f0 ∧ (rd_T62 E i).f1 = (rd_T62 E j).f1) := by
  obtain ⟨K, hK, hKe, hKm⟩ := hI.at_ j hj
  have hKs : Stop T E (rd_T62 E j).f0 (rd_T62 E j).f1 (path (rd_T62 E j).f0 n K) := Or.inr (by rw [hKe]; exact ⟨hlive, rfl, rfl⟩)
  have hJK : J ≤ K := by
    by_cases hc : K < J
    · exact absurd hKs (hmin K hc)
    · omega
  constructor
  · intro he i hi ⟨d3, d0, d1⟩
    obtain ⟨L, hL, hLe, hLm⟩ := hI.at_ i (by omega)
    rw [d0] at hLe hLm
    have hLs : Stop T E (rd_T62 E j).f0 (rd_T62 E j).f1 (path (rd_T62 E j).f0 n L) := Or.inr (by rw [hLe]; exact ⟨d3, d0, d1⟩)
    have hJL : J ≤ L := by
      by_cases hc : L < J
      · exact absurd hLs (hmin L hc)
      · omega
    by_cases hJL' : J = L
    · subst hJL'
      rw [hLe, if_neg (by omega)] at he
      omega
    · have := hLm J (by omega)
      rw [if_neg (by omega)] at he
      omega
  · intro hno
    by_cases hJK' : J = K
    · subst hJK'
      rw [hKe, if_neg (by omega)]
    · have hb := hKm J (by omega)
      rcases hs with hs | hs
      · omega
      · exfalso
        have := hno (rd T (path (rd_T62 E j).f0 n J)).toNat (by omega)
        rw [Int.toNat_of_nonneg hb.1] at this
        exact this hs

/-! ### The reference's table -/
theorem spec_fill (E : List S62) (n : Nat) (hn : n ≤ 65536) (d : Nat) : ∀ (k i : Nat) (x : List Int), n = i + d → x.length = n → x.take i = List.replicate i (-1) →
    spec_l7Table.l0 (k + d + 1) E n x i = spec_l7Table.l1 k E n (List.replicate n (-1)) 0 := by
  induction d with
  | zero =>
    intro k i x h1 h2 h3
    simp only [spec_l7Table.l0]
    rw [if_neg (by omega)]
    have : x = List.replicate n (-1) := by
      rw [List.take_of_length_le (by omega)] at h3
      rw [h3]
      have : i = n := by omega
      rw [this]
    rw [this]
  | succ d ih =>
    intro k i x h1 h2 h3
    have e : k + (d + 1) + 1 = (k + d + 1) + 1 := by omega
    rw [e]
    have := ih k (i + 1) (x.set i (-1)) (by omega) (by simpa using h2) (by rw [dk_take_set (by omega), h3, List.replicate_succ'])
    generalize k + d + 1 = q at *
    simp only [spec_l7Table.l0]
    rw [if_pos (by omega), if_pos (by omega), if_pos (by omega), wrap_in _ (by omega) (by omega)]
    rw [Int.toNat_natCast]
    exact this

theorem spec_table_l2 (m n : Nat) (hn : n = 2 ^ m) (hn6 : n ≤ 65536) (E : List S62) (hH : ∀ e ∈ E, 0 ≤ e.f0 ∧ e.f0 ≤ 18446744073709551615) (i : Nat) (hi : i < E.length) (hE : E.length < n) (T : List Int) (hl : T.length = n) (J : Nat) (hJ : J < 12 + n)
    (hf : rd T (path (rd_T62 E i).f0 n J) < 0) (hmin : ∀ J', J' < J → 0 ≤ rd T (path (rd_T62 E i).f0 n J')) (d : Nat) : ∀ (k j : Nat), j + d = J →
    spec_l7Table.l2 (k + d + 1) E n T i (path (rd_T62 E i).f0 n j) ((j : Int) + 1) = spec_l7Table.l1 k E n (T.set (path (rd_T62 E i).f0 n J).toNat i) ((i : Int) + 1) := by
  have he : rd_T62 E i ∈ E := by
    unfold rd_T62
    rw [List.getD_eq_getElem?_getD, Int.toNat_natCast, List.getElem?_eq_getElem hi]
    exact List.getElem_mem _
  obtain ⟨g0, g1⟩ := hH _ he
  induction d with
  | zero =>
    intro k j h1
    obtain rfl : j = J := by omega
    have hr := path_range (rd_T62 E i).f0 n (by omega) j
    simp only [spec_l7Table.l2]
    rw [if_pos hr.1, if_pos (by omega), if_neg (by omega), wrap_in _ (by omega) (by omega)]
  | succ d ih =>
    intro k j h1
    have hr := path_range (rd_T62 E i).f0 n (by omega) j
    have hm := hmin j (by omega)
    have e : k + (d + 1) + 1 = (k + d + 1) + 1 := by omega
    rw [e]
    have hnext := spec_next (rd_T62 E i).f0 n (path (rd_T62 E i).f0 n j) (j + 1) g0 g1 (by omega) (by omega) hr.1 hr.2 (by omega) (by omega)
    have e2 : nxt (rd_T62 E i).f0 n (path (rd_T62 E i).f0 n j) (5 * ((j + 1 : Nat) : Int)) = path (rd_T62 E i).f0 n (j + 1) := by
      show _ = nxt (rd_T62 E i).f0 n (path (rd_T62 E i).f0 n j) (5 * ((j : Int) + 1))
      congr 2
    rw [e2] at hnext
    have hnext' : spec_l7Next.f (path (rd_T62 E i).f0 n j) (rd_T62 E i).f0 ((j : Int) + 1) n = some (path (rd_T62 E i).f0 n (j + 1)) := by
      rw [← hnext]
      congr 1
    have := ih k (j + 1) (by omega)
    generalize k + d + 1 = q at *
    simp only [spec_l7Table.l2]
    rw [if_pos hr.1, if_pos (by omega), if_pos hm, if_pos (by omega), if_pos (by omega), u64_in n (by omega) (by omega), hnext', wrap_in ((j : Int) + 1 + 1) (by omega) (by omega)]
    have e3 : (j : Int) + 1 + 1 = ((j + 1 : Nat) : Int) + 1 := by omega
    rw [e3]
    exact this

theorem spec_table_l1 (m n : Nat) (hn : n = 2 ^ m) (hn6 : n ≤ 65536) (E : List S62) (hE : E.length < n) (hH : ∀ e ∈ E, 0 ≤ e.f0 ∧ e.f0 ≤ 18446744073709551615) (d : Nat) : ∀ (i : Nat), i + d = E.length → ∀ (k : Nat) (T : List Int), Inv n E i T → 70000 * d < k →
    spec_l7Table.l1 k E n T i = tab n (E.drop i) i T := by
  induction d with
  | zero =>
    intro i h k T hI hk
    obtain ⟨k, rfl⟩ : ∃ m, k = m + 1 := ⟨k - 1, by omega⟩
    obtain rfl : i = E.length := by omega
    simp only [spec_l7Table.l1]
    rw [if_neg (by omega), List.drop_length]
    rfl
  | succ d ih =>
    intro i h k T hI hk
    obtain ⟨J, hJ, hf, hmin, hl, hI'⟩ := lay_ok m n hn hn6 E hE hH i (by omega) T hI
    obtain ⟨k, rfl⟩ : ∃ q, k = (q + J + 1) + 1 := ⟨k - J - 2, by omega⟩
    have he : rd_T62 E i ∈ E := by
      unfold rd_T62
      rw [List.getD_eq_getElem?_getD, Int.toNat_natCast, List.getElem?_eq_getElem (show i < E.length by omega)]
      exact List.getElem_mem _
    simp only [spec_l7Table.l1]
    rw [if_pos (by omega), if_pos (by omega), u64_in n (by omega) (by omega), if_neg (by omega), Int.tmod_eq_emod_of_nonneg (hH _ he).1]
    have h2 := spec_table_l2 m n hn hn6 E hH i (by omega) hE T hI.len J hJ hf hmin J k 0 (by omega)
    have e1 : (((0 : Nat) : Int) + 1) = 1 := rfl
    rw [e1] at h2
    have e2 : path (rd_T62 E i).f0 n 0 = (rd_T62 E i).f0 % (n : Int) := rfl
    rw [e2] at h2
    rw [h2, drop_at E i (by omega)]
    simp only [tab]
    rw [hl]
    exact ih (i + 1) (by omega) k _ hI' (by omega)

theorem spec_table (m n : Nat) (hn : n = 2 ^ m) (hn6 : n ≤ 65536) (E : List S62) (hE : E.length < n) (hH : ∀ e ∈ E, 0 ≤ e.f0 ∧ e.f0 ≤ 18446744073709551615) (k : Nat) (hk : 5000000000 ≤ k) :
    spec_l7Table.f k E n = tab n E 0 (List.replicate n (-1)) := by
  obtain ⟨k, rfl⟩ : ∃ q, k = q + n + 1 := ⟨k - n - 1, by omega⟩
  unfold spec_l7Table.f
  rw [if_pos (by omega), if_pos (by omega), Int.toNat_natCast]
  have h1 := spec_fill E n hn6 n k 0 (List.replicate n 0) (by omega) (by simp) (by simp)
  have h2 := spec_table_l1 m n hn hn6 E hE hH E.length 0 (by omega) k _ (inv_zero n E) (by omega)
  rw [List.drop_zero] at h2
  exact h1.trans h2

end Go.Proofs.Ytohilfkdfcihgaa.DictT
