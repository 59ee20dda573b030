/- The table that the entries make; what the program's and the reference's DictOk and find come to. Plain law; no condition beyond those of the theorems. -/
import Derived.Test.YtohilfkdfcihgaaDictT
import Derived.Test.YtohilfkdfcihgaaGDictOk
import Derived.Test.YtohilfkdfcihgaaPDix4
set_option linter.unusedVariables false
set_option linter.unusedSimpArgs false
namespace Go.Proofs.Ytohilfkdfcihgaa.DictT
open Go.RowKit Go.Proofs.Ytohilfkdfcihgaa.PDi Go.Proofs.YtohilfkdfcihgaaW.PrintWords Go.Proofs.YtohilfkdfcihgaaW.PrintLast Go.Proofs.YtohilfkdfcihgaaW.PrintMore

/-! ### The sizes -/
theorem size_of_pow : ∀ m, m < 17 → 3 ≤ m → sizeOk ((2 ^ m : Nat) : Int) = true := by decide +kernel

theorem i64_in (x : Int) (h0 : 0 ≤ x) (h1 : x ≤ 65536) : IntKind.i64.wrap x = x := by
  have e : IntKind.i64.wrap x = if (true && decide (x % 18446744073709551616 ≥ 9223372036854775808)) = true then x % 18446744073709551616 - 18446744073709551616 else x % 18446744073709551616 := rfl
  rw [e, Int.emod_eq_of_lt h0 (by omega), if_neg (by simp; omega)]

theorem pow_of_size (n : Nat) (h : sizeOk (n : Int) = true) : ∃ m, 3 ≤ m ∧ m ≤ 16 ∧ n = 2 ^ m := by
  unfold sizeOk at h
  simp only [Bool.and_eq_true, decide_eq_true_eq, beq_iff_eq] at h
  obtain ⟨⟨h8, h6⟩, hb⟩ := h
  have hz : n &&& (n - 1) = 0 := by
    have e : Go.bits .and .i64 (n : Int) ((n : Int) - 1) = IntKind.i64.wrap (((BitVec.ofInt 64 (n : Int)) &&& (BitVec.ofInt 64 ((n : Int) - 1))).toNat : Int) := rfl
    have e1 : (BitVec.ofInt 64 (n : Int)).toNat = n := by
      rw [BitVec.toNat_ofInt]
      omega
    have e2 : (BitVec.ofInt 64 ((n : Int) - 1)).toNat = n - 1 := by
      rw [BitVec.toNat_ofInt]
      omega
    rw [e, BitVec.toNat_and, e1, e2] at hb
    have hle : n &&& (n - 1) ≤ n := Nat.and_le_left
    rw [i64_in _ (by omega) (by omega)] at hb
    omega
  obtain ⟨m, rfl⟩ := (Nat.and_sub_one_eq_zero_iff_isPowerOfTwo (by omega)).1 hz
  refine ⟨m, ?_, ?_, rfl⟩
  · by_cases hm : 3 ≤ m
    · exact hm
    · have := Nat.pow_le_pow_right (show 0 < 2 by omega) (show m ≤ 2 by omega)
      omega
  · by_cases hm : m ≤ 16
    · exact hm
    · have := Nat.pow_le_pow_right (show 0 < 2 by omega) (show 17 ≤ m by omega)
      omega

theorem spec_size_loop (n : Nat) (d : Nat) : ∀ (k j : Nat), j + d = 17 → 3 ≤ j → d < k → (∀ m, 3 ≤ m → m < j → n ≠ 2 ^ m) → spec_l7Size.l0 k (n : Int) ((2 ^ j : Nat) : Int) = some (sizeOk (n : Int)) := by
  induction d with
  | zero =>
    intro k j h1 h3 h2 hno
    obtain ⟨k, rfl⟩ : ∃ m, k = m + 1 := ⟨k - 1, by omega⟩
    obtain rfl : j = 17 := by omega
    simp only [spec_l7Size.l0]
    rw [if_neg (by decide)]
    cases hs : sizeOk (n : Int) with
    | false => rfl
    | true =>
      obtain ⟨m, m3, m16, e⟩ := pow_of_size n hs
      exact absurd e (hno m m3 (by omega))
  | succ d ih =>
    intro k j h1 h3 h2 hno
    obtain ⟨k, rfl⟩ : ∃ m, k = m + 1 := ⟨k - 1, by omega⟩
    have hle := Nat.pow_le_pow_right (show 0 < 2 by omega) (show j ≤ 16 by omega)
    simp only [spec_l7Size.l0]
    rw [if_pos (by generalize 2 ^ j = p at *; omega)]
    by_cases hc : (((2 ^ j : Nat) : Int)) = (n : Int)
    · rw [if_pos hc, ← hc, size_of_pow j (by omega) h3]
    · rw [if_neg hc]
      have e : wrap64 (((2 ^ j : Nat) : Int) * 2) = ((2 ^ (j + 1) : Nat) : Int) := by
        rw [Nat.pow_succ]
        generalize 2 ^ j = p at *
        rw [wrap_in _ (by omega) (by omega)]
        omega
      rw [e]
      refine ih k (j + 1) (by omega) (by omega) (by omega) (fun m m3 mj => ?_)
      by_cases hm : m = j
      · subst hm
        intro e
        exact hc (by rw [e])
      · exact hno m m3 (by omega)

theorem spec_size (n k : Nat) (hk : 20 ≤ k) : spec_l7Size.f k (n : Int) = some (sizeOk (n : Int)) :=
  spec_size_loop n 14 k 3 (by omega) (by omega) (by omega) (fun m h3 h => absurd h (by omega))

/-! ### The table of the entries -/
def lay1 (n : Nat) (T : List Int) (i h : Int) : Option (List Int) := probe (layStep i) h n 1000000 T (h % n) 5
def tab (n : Nat) : List S62 → Int → List Int → Option (List Int)
  | [], _, T => some T
  | e :: rest, i, T => (lay1 n T i e.f0).bind fun T' => tab n rest (i + 1) T'

def full (x : Int) : Bool := decide (0 ≤ x)

/-- A table of the first i entries. -/
structure Inv (n : Nat) (E : List S62) (i : Nat) (T : List Int) : Prop where
  len : T.length = n
  hi : ∀ x ∈ T, -1 ≤ x ∧ x < i
  cnt : T.countP full ≤ i
  at_ : ∀ j : Nat, j < i → ∃ J, J < 12 + n ∧ rd T (path (rd_T62 E j).f0 n J) = j ∧ ∀ J', J' < J → 0 ≤ rd T (path (rd_T62 E j).f0 n J') ∧ rd T (path (rd_T62 E j).f0 n J') < j

theorem rd_mem (T : List Int) (s : Int) (h0 : 0 ≤ s) (h1 : s < T.length) : rd T s ∈ T := by
  unfold rd
  rw [List.getD_eq_getElem?_getD, List.getElem?_eq_getElem (show s.toNat < T.length by omega)]
  exact List.getElem_mem _

theorem rd_set (T : List Int) (a b v : Int) (ha : 0 ≤ a) (ha1 : a < T.length) (hb : 0 ≤ b) : rd (T.set a.toNat v) b = if a = b then v else rd T b := by
  unfold rd
  rw [List.getD_eq_getElem?_getD, List.getElem?_set]
  by_cases h : a = b
  · subst h
    rw [if_pos rfl, if_pos (by omega), if_pos rfl]
    rfl
  · rw [if_neg (by omega), if_neg h, List.getD_eq_getElem?_getD]

/-- While entries are missing, there is a free slot on every walk. -/
theorem free_slot (m n : Nat) (hn : n = 2 ^ m) (T : List Int) (hl : T.length = n) (hc : T.countP full < n) (h : Int) (h0 : 0 ≤ h) (h1 : h ≤ 18446744073709551615) :
    ∃ J, J < 12 + n ∧ rd T (path h n J) < 0 := by
  have : ∃ x ∈ T, ¬ full x = true := by
    refine Classical.byContradiction fun hno => ?_
    have : T.countP full = T.length := List.countP_eq_length.2 (fun x hx => Classical.byContradiction fun h => hno ⟨x, hx, h⟩)
    omega
  obtain ⟨x, hx, hx0⟩ := this
  obtain ⟨s, hs, rfl⟩ := List.getElem_of_mem hx
  obtain ⟨J, hJ, e⟩ := path_cover h m h0 h1 (s : Int) (by omega) (by omega)
  rw [← hn] at hJ e
  refine ⟨J, hJ, ?_⟩
  rw [e]
  unfold rd
  rw [List.getD_eq_getElem?_getD, Int.toNat_natCast, List.getElem?_eq_getElem hs]
  unfold full at hx0
  simpa using hx0

theorem lay_ok (m n : Nat) (hn : n = 2 ^ m) (hn6 : n ≤ 65536) (E : List S62) (hE : E.length < n) (hH : ∀ e ∈ E, 0 ≤ e.f0 ∧ e.f0 ≤ 18446744073709551615) (i : Nat) (hi : i < E.length) (T : List Int) (hI : Inv n E i T) :
    ∃ J, J < 12 + n ∧ rd T (path (rd_T62 E i).f0 n J) < 0 ∧ (∀ J', J' < J → 0 ≤ rd T (path (rd_T62 E i).f0 n J')) ∧
      lay1 n T i (rd_T62 E i).f0 = some (T.set (path (rd_T62 E i).f0 n J).toNat i) ∧ Inv n E (i + 1) (T.set (path (rd_T62 E i).f0 n J).toNat i) := by
  have he : rd_T62 E i ∈ E := by
    unfold rd_T62
    rw [List.getD_eq_getElem?_getD, Int.toNat_natCast, List.getElem?_eq_getElem hi]
    exact List.getElem_mem _
  obtain ⟨g0, g1⟩ := hH _ he
  generalize hh : (rd_T62 E i).f0 = h at *
  obtain ⟨J0, hJ0, hf0⟩ := free_slot m n hn T hI.len (by have := hI.cnt; omega) h g0 g1
  obtain ⟨J, hf, hmin⟩ := least (P := fun J => rd T (path h n J) < 0) ⟨J0, hf0⟩
  have hJ : J < 12 + n := by
    by_cases hc : J0 < J
    · exact absurd hf0 (hmin J0 hc)
    · omega
  have hmin' : ∀ J', J' < J → 0 ≤ rd T (path h n J') := fun J' hj => by have := hmin J' hj; omega
  have hp := path_range h n (by omega) J
  refine ⟨J, hJ, hf, hmin', ?_, ?_⟩
  · exact probe_lay i h n T J hf J 1000000 0 (by omega) (by omega) (fun J' _ hj => hmin' J' hj)
  · have hpl : (path h n J).toNat < T.length := by rw [hI.len]; omega
    refine ⟨by rw [List.length_set]; exact hI.len, ?_, ?_, ?_⟩
    · intro x hx
      rcases List.mem_or_eq_of_mem_set hx with hx | rfl
      · have := hI.hi x hx
        omega
      · omega
    · rw [List.countP_set hpl]
      have := hI.cnt
      split <;> split <;> omega
    · intro j hj
      by_cases hji : j = i
      · subst hji
        rw [hh]
        refine ⟨J, hJ, ?_, ?_⟩
        · rw [rd_set _ _ _ _ hp.1 (by rw [hI.len]; exact hp.2) hp.1, if_pos rfl]
        · intro J' hj'
          have hr := path_range h n (by omega) J'
          have h1 := hmin' J' hj'
          rw [rd_set _ _ _ _ hp.1 (by rw [hI.len]; exact hp.2) hr.1, if_neg (by intro e; rw [e] at hf; omega)]
          exact ⟨h1, (hI.hi _ (rd_mem T _ hr.1 (by rw [hI.len]; exact hr.2))).2⟩
      · obtain ⟨K, hK, hKe, hKm⟩ := hI.at_ j (by omega)
        generalize (rd_T62 E j).f0 = h' at *
        refine ⟨K, hK, ?_, ?_⟩
        · have hr := path_range h' n (by omega) K
          rw [rd_set _ _ _ _ hp.1 (by rw [hI.len]; exact hp.2) hr.1, if_neg (by intro e; rw [e] at hf; omega)]
          exact hKe
        · intro K' hk'
          have hr := path_range h' n (by omega) K'
          have h1 := hKm K' hk'
          rw [rd_set _ _ _ _ hp.1 (by rw [hI.len]; exact hp.2) hr.1, if_neg (by intro e; rw [e] at hf; omega)]
          exact h1

theorem drop_at (E : List S62) (i : Nat) (hi : i < E.length) : E.drop i = rd_T62 E i :: E.drop (i + 1) := by
  rw [List.drop_eq_getElem_cons hi]
  congr 1
  unfold rd_T62
  rw [List.getD_eq_getElem?_getD, Int.toNat_natCast, List.getElem?_eq_getElem hi]
  rfl

theorem tab_ok (m n : Nat) (hn : n = 2 ^ m) (hn6 : n ≤ 65536) (E : List S62) (hE : E.length < n) (hH : ∀ e ∈ E, 0 ≤ e.f0 ∧ e.f0 ≤ 18446744073709551615) (d : Nat) : ∀ (i : Nat), i + d = E.length → ∀ (T : List Int), Inv n E i T →
    ∃ T', tab n (E.drop i) i T = some T' ∧ Inv n E E.length T' := by
  induction d with
  | zero =>
    intro i h T hI
    obtain rfl : i = E.length := by omega
    exact ⟨T, by rw [List.drop_length]; rfl, hI⟩
  | succ d ih =>
    intro i h T hI
    obtain ⟨J, hJ, _, _, hl, hI'⟩ := lay_ok m n hn hn6 E hE hH i (by omega) T hI
    obtain ⟨T', hT', hI''⟩ := ih (i + 1) (by omega) _ hI'
    refine ⟨T', ?_, hI''⟩
    rw [drop_at E i (by omega)]
    simp only [tab]
    rw [hl]
    exact hT'

theorem inv_zero (n : Nat) (E : List S62) : Inv n E 0 (List.replicate n (-1)) := by
  refine ⟨by simp, fun x hx => ?_, ?_, fun j hj => absurd hj (by omega)⟩
  · have := List.eq_of_mem_replicate hx
    omega
  · rw [List.countP_replicate]
    simp [full]

end Go.Proofs.Ytohilfkdfcihgaa.DictT
