/- The reference's reading of a text (l3Runes), against the shelf's words on UTF-8. Plain law; no condition beyond those of the theorems. -/
import Derived.Test.YtfgiodolgmfdoaaDoorPTx1
import Derived.Lib.ValidLaws
import Derived.Lib.RuneCount
import Derived.Laws.BitsLemmas
namespace Go.Proofs.YtfgiodolgmfdoaaDoor.PT
open Go.RowKit Go.Proofs.YtfgiodolgmfdoaaDoorW.PrintWords Go.Proofs.YtfgiodolgmfdoaaDoorW.PrintLast
set_option linter.unusedVariables false
set_option linter.unusedSimpArgs false

theorem wrap_in (i : Int) (h0 : -9223372036854775808 ≤ i) (h1 : i ≤ 9223372036854775807) : wrap64 i = i := by
  unfold wrap64
  omega

/-- The byte at a place; 0 beyond the end. -/
def B (s : ByteArray) (i : Nat) : Nat := (s.data.toList.getD i 0).toNat
theorem B_lt (s : ByteArray) (i : Nat) : B s i < 256 := (s.data.toList.getD i 0).toNat_lt
theorem bt_B (s : ByteArray) (i : Nat) : bt s (i : Int) = (B s i : Int) := by
  unfold bt B
  rw [Int.toNat_natCast]
  by_cases h : i < s.size
  · rw [dif_pos h]
    have hl : i < s.data.toList.length := by rw [← Lib.size_eq]; exact h
    rw [List.getD_eq_getElem?_getD, List.getElem?_eq_getElem hl]
    simp only [Option.getD_some, Array.getElem_toList]
    rfl
  · rw [dif_neg h]
    have hl : s.data.toList.length ≤ i := by rw [← Lib.size_eq]; omega
    rw [List.getD_eq_getElem?_getD, List.getElem?_eq_none hl]
    rfl

theorem dec_B (s : ByteArray) (i : Nat) : Utf8.decode s i = Lib.decodeN (s.size - i) (B s i) (B s (i + 1)) (B s (i + 2)) (B s (i + 3)) := by
  rw [Lib.decode_N, ← Lib.size_eq]
  rfl

theorem wraps_i64 (n : Int) (h₀ : 0 ≤ n) (h₁ : n < 2 ^ 31) : IntKind.i64.wrap n = n := by rw [IntKind.wrap_i64]; omega
theorem and63 (x : Int) (h₀ : 0 ≤ x) (h₁ : x < 256) : Go.bits .and .i64 x 63 = x % 64 := bits_mask .i64 31 (by decide) wraps_i64 6 (by decide) x h₀ (by omega)
theorem and31 (x : Int) (h₀ : 0 ≤ x) (h₁ : x < 256) : Go.bits .and .i64 x 31 = x % 32 := bits_mask .i64 31 (by decide) wraps_i64 5 (by decide) x h₀ (by omega)
theorem and15 (x : Int) (h₀ : 0 ≤ x) (h₁ : x < 256) : Go.bits .and .i64 x 15 = x % 16 := bits_mask .i64 31 (by decide) wraps_i64 4 (by decide) x h₀ (by omega)
theorem and7 (x : Int) (h₀ : 0 ≤ x) (h₁ : x < 256) : Go.bits .and .i64 x 7 = x % 8 := bits_mask .i64 31 (by decide) wraps_i64 3 (by decide) x h₀ (by omega)
theorem or64 (x y : Int) (h₀ : 0 ≤ x) (h₁ : x < 16777216) (hy : 0 ≤ y) (hy1 : y < 64) : Go.bits .or .i64 (x * 64) y = x * 64 + y :=
  bits_join .i64 31 (by decide) wraps_i64 6 (x * 64) y (by omega) (by omega) (by omega) hy hy1 (by omega)

/-- The reference's inner loop, one step. -/
theorem l1_step (s : ByteArray) (acc : List Int) (i j : Nat) (c n least : Int) (hs : s.size ≤ 16384) (hj : (j : Int) ≤ n) (hij : i + j < s.size) (hc0 : 0 ≤ c) (hc1 : c < 16777216) (k : Nat) :
    spec_l3Runes.l1 (k + 1) s acc i c n least j = if B s (i + j) / 64 = 2 then spec_l3Runes.l1 k s acc i (c * 64 + ((B s (i + j) % 64 : Nat) : Int)) n least ((j + 1 : Nat) : Int) else some ([], false) := by
  have hb := B_lt s (i + j)
  have e1 : wrap64 ((i : Int) + (j : Int)) = ((i + j : Nat) : Int) := by rw [wrap_in _ (by omega) (by omega)]; omega
  have e2 : wrap64 ((j : Int) + 1) = ((j + 1 : Nat) : Int) := by rw [wrap_in _ (by omega) (by omega)]; omega
  have e3 : wrap64 (B s (i + j) : Int) = (B s (i + j) : Int) := wrap_in _ (by omega) (by omega)
  have e4 : wrap64 (c * 64) = c * 64 := wrap_in _ (by omega) (by omega)
  have E1 := Aside0.mk e1
  have E2 := Aside0.mk e2
  have E3 := Aside0.mk e3
  have E4 := Aside0.mk e4
  clear e1 e2 e3 e4
  rw [spec_l3Runes.l1, if_pos hj, E1.out, if_pos (by omega), if_pos (by omega), bt_B, E3.out, E4.out, and63 _ (by omega) (by omega), or64 c _ hc0 hc1 (by omega) (by omega), E2.out]
  by_cases h1 : (B s (i + j) : Int) < 128
  · rw [if_pos h1, if_neg (by omega)]
  · rw [if_neg h1]
    by_cases h2 : (B s (i + j) : Int) ≥ 192
    · rw [if_pos h2, if_neg (by omega)]
    · rw [if_neg h2, if_pos (by omega)]
      rfl

theorem l1_end (s : ByteArray) (acc : List Int) (i n : Nat) (c least : Int) (hs : s.size ≤ 16384) (hi : i ≤ 16384) (hn : n ≤ 3) (ha : acc.length ≤ 16384) (k : Nat) :
    spec_l3Runes.l1 (k + 1) s acc i c n least ((n + 1 : Nat) : Int) = if c < least ∨ c > 1114111 ∨ (55296 ≤ c ∧ c < 57344) then some ([], false) else spec_l3Runes.l0 k s (acc ++ [c]) ((i + n + 1 : Nat) : Int) := by
  have e1 : wrap64 (wrap64 ((i : Int) + (n : Int)) + 1) = ((i + n + 1 : Nat) : Int) := by rw [wrap_in ((i : Int) + (n : Int)) (by omega) (by omega), wrap_in _ (by omega) (by omega)]; omega
  have E1 := Aside0.mk e1
  clear e1
  rw [spec_l3Runes.l1, if_neg (by omega), E1.out]
  by_cases h1 : c < least
  · rw [if_pos h1, if_pos (Or.inl h1)]
  · rw [if_neg h1]
    by_cases h2 : c > 1114111
    · rw [if_pos h2, if_pos (Or.inr (Or.inl h2))]
    · rw [if_neg h2]
      by_cases h3 : c ≥ 55296
      · rw [if_pos h3]
        by_cases h4 : c < 57344
        · rw [if_pos h4, if_pos (Or.inr (Or.inr ⟨h3, h4⟩))]
        · rw [if_neg h4, if_pos (by omega), if_neg (by omega)]
      · rw [if_neg h3, if_pos (by omega), if_neg (by omega)]

theorem j4_eq (s : ByteArray) (acc : List Int) (i n : Nat) (c least : Int) (hs : s.size ≤ 16384) (hi : i ≤ 16384) (hn : n ≤ 3) (k : Nat) :
    spec_l3Runes.j4 (k + 1) s acc i c n least = if s.size ≤ i + n then some ([], false) else spec_l3Runes.l1 k s acc i c n least 1 := by
  have e1 : wrap64 ((i : Int) + (n : Int)) = ((i + n : Nat) : Int) := by rw [wrap_in _ (by omega) (by omega)]; omega
  have E1 := Aside0.mk e1
  clear e1
  rw [spec_l3Runes.j4, E1.out]
  by_cases h : s.size ≤ i + n
  · rw [if_pos (by omega), if_pos h]
  · rw [if_neg (by omega), if_neg h]

/-- The head of the reference's round: by the first byte. -/
theorem head_eq (s : ByteArray) (acc : List Int) (i : Nat) (hs : s.size ≤ 16384) (hi : i < s.size) (k : Nat) :
    spec_l3Runes.l0 (k + 4) s acc i = if B s i < 128 then spec_l3Runes.j4 k s acc i (B s i : Int) 0 0 else if B s i < 192 then some ([], false) else if B s i < 224 then spec_l3Runes.j4 k s acc i ((B s i % 32 : Nat) : Int) 1 128 else
      if B s i < 240 then spec_l3Runes.j4 (k + 1) s acc i ((B s i % 16 : Nat) : Int) 2 2048 else if B s i < 248 then spec_l3Runes.j4 (k + 2) s acc i ((B s i % 8 : Nat) : Int) 3 65536 else some ([], false) := by
  have hb := B_lt s i
  have e3 : wrap64 (B s i : Int) = (B s i : Int) := wrap_in _ (by omega) (by omega)
  have E3 := Aside0.mk e3
  clear e3
  rw [spec_l3Runes.l0, if_pos (by omega), if_pos (by omega), bt_B, E3.out]
  by_cases c1 : (B s i : Int) ≥ 240
  · rw [if_pos c1, spec_l3Runes.j1]
    by_cases c2 : (B s i : Int) < 248
    · rw [decide_eq_true c2, if_pos rfl, and7 _ (by omega) (by omega), if_neg (by omega), if_neg (by omega), if_neg (by omega), if_neg (by omega), if_pos (by omega)]
      rfl
    · rw [decide_eq_false c2, if_neg (by decide), if_pos (by omega), spec_l3Runes.j2, decide_eq_false (show ¬ (B s i : Int) < 240 by omega), if_neg (by decide), if_pos (by omega), spec_l3Runes.j3, decide_eq_false (show ¬ (B s i : Int) < 224 by omega), if_neg (by decide), if_pos (by omega),
        if_neg (by omega), if_neg (by omega), if_neg (by omega), if_neg (by omega), if_neg (by omega)]
  · rw [if_neg c1, spec_l3Runes.j1, if_neg (by decide)]
    by_cases c2 : (B s i : Int) ≥ 224
    · rw [if_pos c2, spec_l3Runes.j2, decide_eq_true (show (B s i : Int) < 240 by omega), if_pos rfl, and15 _ (by omega) (by omega), if_neg (by omega), if_neg (by omega), if_neg (by omega), if_pos (by omega)]
      rfl
    · rw [if_neg c2, spec_l3Runes.j2, if_neg (by decide)]
      by_cases c3 : (B s i : Int) ≥ 192
      · rw [if_pos c3, spec_l3Runes.j3, decide_eq_true (show (B s i : Int) < 224 by omega), if_pos rfl, and31 _ (by omega) (by omega), if_neg (by omega), if_neg (by omega), if_pos (by omega)]
        rfl
      · rw [if_neg c3, spec_l3Runes.j3, if_neg (by decide)]
        by_cases c4 : (B s i : Int) ≥ 128
        · rw [if_pos c4, if_neg (by omega), if_pos (by omega)]
        · rw [if_neg c4, if_pos (by omega)]

/-- One round, against Go's own decoder. -/
theorem round (s : ByteArray) (acc : List Int) (i : Nat) (hs : s.size ≤ 16384) (hi : i < s.size) (ha : acc.length ≤ 16384) :
    (Utf8.decode s i = (65533, 1) ∧ ∀ K, 20 ≤ K → spec_l3Runes.l0 K s acc i = some ([], false)) ∨
    ∃ c w : Nat, Utf8.decode s i = (c, w) ∧ ¬ (c = 65533 ∧ w = 1) ∧ 1 ≤ w ∧ i + w ≤ s.size ∧ ∀ K, 20 ≤ K → ∃ k', K - 20 ≤ k' ∧ spec_l3Runes.l0 K s acc i = spec_l3Runes.l0 k' s (acc ++ [(c : Int)]) ((i + w : Nat) : Int) := by
  have hb := B_lt s i
  have hb1 := B_lt s (i + 1)
  have hb2 := B_lt s (i + 2)
  have hb3 := B_lt s (i + 3)
  rw [dec_B]
  have hK : ∀ K, 20 ≤ K → ∃ q, K = (q + 14) + 4 ∧ K - 20 ≤ q := fun K hK => ⟨K - 18, by omega, by omega⟩
  by_cases c1 : B s i < 128
  · refine Or.inr ⟨B s i, 1, by rw [Lib.decodeN_ascii _ _ _ _ _ c1], by omega, by omega, by omega, fun K hk => ?_⟩
    obtain ⟨q, rfl, hq⟩ := hK K hk
    refine ⟨q + 12, by omega, ?_⟩
    rw [head_eq s acc i hs hi, if_pos c1]
    have h4 := j4_eq s acc i 0 (B s i : Int) 0 hs (by omega) (by omega) (q + 13)
    have h5 := l1_end s acc i 0 (B s i : Int) 0 hs (by omega) (by omega) ha (q + 12)
    rw [if_neg (by omega)] at h4 h5
    exact h4.trans h5
  · by_cases c2 : B s i < 192
    · refine Or.inl ⟨?_, fun K hk => ?_⟩
      · unfold Lib.decodeN
        rw [if_neg c1, if_neg (by omega), if_neg (by omega), if_neg (by omega)]
      · obtain ⟨q, rfl, hq⟩ := hK K hk
        rw [head_eq s acc i hs hi, if_neg c1, if_pos c2]
    · by_cases c3 : B s i < 224
      · -- two bytes
        have hh : ∀ q, spec_l3Runes.l0 ((q + 14) + 4) s acc i = if s.size ≤ i + 1 then some ([], false) else spec_l3Runes.l1 (q + 13) s acc i ((B s i % 32 : Nat) : Int) 1 128 1 := by
          intro q
          rw [head_eq s acc i hs hi, if_neg c1, if_neg c2, if_pos c3]
          exact j4_eq s acc i 1 _ 128 hs (by omega) (by omega) (q + 13)
        by_cases h1 : s.size ≤ i + 1
        · refine Or.inl ⟨?_, fun K hk => ?_⟩
          · unfold Lib.decodeN
            rw [if_neg c1, if_neg (by omega), if_neg (by omega), if_neg (by omega)]
          · obtain ⟨q, rfl, hq⟩ := hK K hk
            rw [hh, if_pos h1]
        · have h2 : ∀ q, spec_l3Runes.l1 (q + 13) s acc i ((B s i % 32 : Nat) : Int) 1 128 1 = _ := fun q => l1_step s acc i 1 ((B s i % 32 : Nat) : Int) 1 128 hs (by omega) (by omega) (by omega) (by omega) (q + 12)
          by_cases h3 : B s (i + 1) / 64 = 2
          · have h4 : ∀ q, spec_l3Runes.l1 (q + 12) s acc i (((B s i % 32 : Nat) : Int) * 64 + ((B s (i + 1) % 64 : Nat) : Int)) 1 128 ((1 + 1 : Nat) : Int) = _ := fun q => l1_end s acc i 1 _ 128 hs (by omega) (by omega) ha (q + 11)
            by_cases h5 : B s i % 32 * 64 + B s (i + 1) % 64 ≥ 128
            · refine Or.inr ⟨B s i % 32 * 64 + B s (i + 1) % 64, 2, ?_, by omega, by omega, by omega, fun K hk => ?_⟩
              · unfold Lib.decodeN
                rw [if_neg c1, if_pos ⟨by omega, by omega, h3⟩, if_pos h5]
              · obtain ⟨q, rfl, hq⟩ := hK K hk
                refine ⟨q + 11, by omega, ?_⟩
                rw [hh, if_neg h1, h2, if_pos h3, h4, if_neg (by omega)]
                congr 1
            · refine Or.inl ⟨?_, fun K hk => ?_⟩
              · unfold Lib.decodeN
                rw [if_neg c1, if_pos ⟨by omega, by omega, h3⟩, if_neg h5]
              · obtain ⟨q, rfl, hq⟩ := hK K hk
                rw [hh, if_neg h1, h2, if_pos h3, h4, if_pos (by omega)]
          · refine Or.inl ⟨?_, fun K hk => ?_⟩
            · unfold Lib.decodeN
              rw [if_neg c1, if_neg (by omega), if_neg (by omega), if_neg (by omega)]
            · obtain ⟨q, rfl, hq⟩ := hK K hk
              rw [hh, if_neg h1, h2, if_neg h3]
      · by_cases c4 : B s i < 240
        · -- three bytes
          have hh : ∀ q, spec_l3Runes.l0 ((q + 14) + 4) s acc i = if s.size ≤ i + 2 then some ([], false) else spec_l3Runes.l1 (q + 14) s acc i ((B s i % 16 : Nat) : Int) 2 2048 1 := by
            intro q
            rw [head_eq s acc i hs hi, if_neg c1, if_neg c2, if_neg c3, if_pos c4]
            exact j4_eq s acc i 2 _ 2048 hs (by omega) (by omega) (q + 14)
          by_cases h1 : s.size ≤ i + 2
          · refine Or.inl ⟨?_, fun K hk => ?_⟩
            · unfold Lib.decodeN
              rw [if_neg c1, if_neg (by omega), if_neg (by omega), if_neg (by omega)]
            · obtain ⟨q, rfl, hq⟩ := hK K hk
              rw [hh, if_pos h1]
          · have h2 : ∀ q, spec_l3Runes.l1 (q + 14) s acc i ((B s i % 16 : Nat) : Int) 2 2048 1 = _ := fun q => l1_step s acc i 1 ((B s i % 16 : Nat) : Int) 2 2048 hs (by omega) (by omega) (by omega) (by omega) (q + 13)
            by_cases h3 : B s (i + 1) / 64 = 2
            · have h2b : ∀ q, spec_l3Runes.l1 (q + 13) s acc i (((B s i % 16 : Nat) : Int) * 64 + ((B s (i + 1) % 64 : Nat) : Int)) 2 2048 ((1 + 1 : Nat) : Int) = _ := fun q => l1_step s acc i 2 _ 2 2048 hs (by omega) (by omega) (by omega) (by omega) (q + 12)
              by_cases h3b : B s (i + 2) / 64 = 2
              · have h4 : ∀ q, spec_l3Runes.l1 (q + 12) s acc i ((((B s i % 16 : Nat) : Int) * 64 + ((B s (i + 1) % 64 : Nat) : Int)) * 64 + ((B s (i + 2) % 64 : Nat) : Int)) 2 2048 ((2 + 1 : Nat) : Int) = _ := fun q => l1_end s acc i 2 _ 2048 hs (by omega) (by omega) ha (q + 11)
                by_cases h5 : B s i % 16 * 4096 + B s (i + 1) % 64 * 64 + B s (i + 2) % 64 ≥ 2048 ∧ (B s i % 16 * 4096 + B s (i + 1) % 64 * 64 + B s (i + 2) % 64 < 55296 ∨ (57344 ≤ B s i % 16 * 4096 + B s (i + 1) % 64 * 64 + B s (i + 2) % 64 ∧ B s i % 16 * 4096 + B s (i + 1) % 64 * 64 + B s (i + 2) % 64 ≤ 1114111))
                · refine Or.inr ⟨B s i % 16 * 4096 + B s (i + 1) % 64 * 64 + B s (i + 2) % 64, 3, ?_, by omega, by omega, by omega, fun K hk => ?_⟩
                  · unfold Lib.decodeN
                    rw [if_neg c1, if_neg (by omega), if_pos ⟨by omega, ⟨by omega, h3⟩, by omega, h3b⟩, if_pos h5]
                  · obtain ⟨q, rfl, hq⟩ := hK K hk
                    refine ⟨q + 11, by omega, ?_⟩
                    rw [hh, if_neg h1, h2, if_pos h3, h2b, if_pos h3b, h4, if_neg (by omega)]
                    congr 1
                    congr 2
                    omega
                · refine Or.inl ⟨?_, fun K hk => ?_⟩
                  · unfold Lib.decodeN
                    rw [if_neg c1, if_neg (by omega), if_pos ⟨by omega, ⟨by omega, h3⟩, by omega, h3b⟩, if_neg h5]
                  · obtain ⟨q, rfl, hq⟩ := hK K hk
                    rw [hh, if_neg h1, h2, if_pos h3, h2b, if_pos h3b, h4, if_pos (by omega)]
              · refine Or.inl ⟨?_, fun K hk => ?_⟩
                · unfold Lib.decodeN
                  rw [if_neg c1, if_neg (by omega), if_neg (by omega), if_neg (by omega)]
                · obtain ⟨q, rfl, hq⟩ := hK K hk
                  rw [hh, if_neg h1, h2, if_pos h3, h2b, if_neg h3b]
            · refine Or.inl ⟨?_, fun K hk => ?_⟩
              · unfold Lib.decodeN
                rw [if_neg c1, if_neg (by omega), if_neg (by omega), if_neg (by omega)]
              · obtain ⟨q, rfl, hq⟩ := hK K hk
                rw [hh, if_neg h1, h2, if_neg h3]
        · by_cases c5 : B s i < 248
          · -- four bytes
            have hh : ∀ q, spec_l3Runes.l0 ((q + 14) + 4) s acc i = if s.size ≤ i + 3 then some ([], false) else spec_l3Runes.l1 (q + 15) s acc i ((B s i % 8 : Nat) : Int) 3 65536 1 := by
              intro q
              rw [head_eq s acc i hs hi, if_neg c1, if_neg c2, if_neg c3, if_neg c4, if_pos c5]
              exact j4_eq s acc i 3 _ 65536 hs (by omega) (by omega) (q + 15)
            by_cases h1 : s.size ≤ i + 3
            · refine Or.inl ⟨?_, fun K hk => ?_⟩
              · unfold Lib.decodeN
                rw [if_neg c1, if_neg (by omega), if_neg (by omega), if_neg (by omega)]
              · obtain ⟨q, rfl, hq⟩ := hK K hk
                rw [hh, if_pos h1]
            · have h2 : ∀ q, spec_l3Runes.l1 (q + 15) s acc i ((B s i % 8 : Nat) : Int) 3 65536 1 = _ := fun q => l1_step s acc i 1 ((B s i % 8 : Nat) : Int) 3 65536 hs (by omega) (by omega) (by omega) (by omega) (q + 14)
              by_cases h3 : B s (i + 1) / 64 = 2
              · have h2b : ∀ q, spec_l3Runes.l1 (q + 14) s acc i (((B s i % 8 : Nat) : Int) * 64 + ((B s (i + 1) % 64 : Nat) : Int)) 3 65536 ((1 + 1 : Nat) : Int) = _ := fun q => l1_step s acc i 2 _ 3 65536 hs (by omega) (by omega) (by omega) (by omega) (q + 13)
                by_cases h3b : B s (i + 2) / 64 = 2
                · have h2c : ∀ q, spec_l3Runes.l1 (q + 13) s acc i ((((B s i % 8 : Nat) : Int) * 64 + ((B s (i + 1) % 64 : Nat) : Int)) * 64 + ((B s (i + 2) % 64 : Nat) : Int)) 3 65536 ((2 + 1 : Nat) : Int) = _ := fun q => l1_step s acc i 3 _ 3 65536 hs (by omega) (by omega) (by omega) (by omega) (q + 12)
                  by_cases h3c : B s (i + 3) / 64 = 2
                  · have h4 : ∀ q, spec_l3Runes.l1 (q + 12) s acc i (((((B s i % 8 : Nat) : Int) * 64 + ((B s (i + 1) % 64 : Nat) : Int)) * 64 + ((B s (i + 2) % 64 : Nat) : Int)) * 64 + ((B s (i + 3) % 64 : Nat) : Int)) 3 65536 ((3 + 1 : Nat) : Int) = _ := fun q => l1_end s acc i 3 _ 65536 hs (by omega) (by omega) ha (q + 11)
                    by_cases h5 : B s i % 8 * 262144 + B s (i + 1) % 64 * 4096 + B s (i + 2) % 64 * 64 + B s (i + 3) % 64 ≥ 65536 ∧ (B s i % 8 * 262144 + B s (i + 1) % 64 * 4096 + B s (i + 2) % 64 * 64 + B s (i + 3) % 64 < 55296 ∨ (57344 ≤ B s i % 8 * 262144 + B s (i + 1) % 64 * 4096 + B s (i + 2) % 64 * 64 + B s (i + 3) % 64 ∧ B s i % 8 * 262144 + B s (i + 1) % 64 * 4096 + B s (i + 2) % 64 * 64 + B s (i + 3) % 64 ≤ 1114111))
                    · refine Or.inr ⟨B s i % 8 * 262144 + B s (i + 1) % 64 * 4096 + B s (i + 2) % 64 * 64 + B s (i + 3) % 64, 4, ?_, by omega, by omega, by omega, fun K hk => ?_⟩
                      · unfold Lib.decodeN
                        rw [if_neg c1, if_neg (by omega), if_neg (by omega), if_pos ⟨by omega, ⟨by omega, h3⟩, ⟨by omega, h3b⟩, by omega, h3c⟩, if_pos h5]
                      · obtain ⟨q, rfl, hq⟩ := hK K hk
                        refine ⟨q + 11, by omega, ?_⟩
                        rw [hh, if_neg h1, h2, if_pos h3, h2b, if_pos h3b, h2c, if_pos h3c, h4, if_neg (by omega)]
                        congr 1
                        congr 2
                        omega
                    · refine Or.inl ⟨?_, fun K hk => ?_⟩
                      · unfold Lib.decodeN
                        rw [if_neg c1, if_neg (by omega), if_neg (by omega), if_pos ⟨by omega, ⟨by omega, h3⟩, ⟨by omega, h3b⟩, by omega, h3c⟩, if_neg h5]
                      · obtain ⟨q, rfl, hq⟩ := hK K hk
                        rw [hh, if_neg h1, h2, if_pos h3, h2b, if_pos h3b, h2c, if_pos h3c, h4, if_pos (by omega)]
                  · refine Or.inl ⟨?_, fun K hk => ?_⟩
                    · unfold Lib.decodeN
                      rw [if_neg c1, if_neg (by omega), if_neg (by omega), if_neg (by omega)]
                    · obtain ⟨q, rfl, hq⟩ := hK K hk
                      rw [hh, if_neg h1, h2, if_pos h3, h2b, if_pos h3b, h2c, if_neg h3c]
                · refine Or.inl ⟨?_, fun K hk => ?_⟩
                  · unfold Lib.decodeN
                    rw [if_neg c1, if_neg (by omega), if_neg (by omega), if_neg (by omega)]
                  · obtain ⟨q, rfl, hq⟩ := hK K hk
                    rw [hh, if_neg h1, h2, if_pos h3, h2b, if_neg h3b]
              · refine Or.inl ⟨?_, fun K hk => ?_⟩
                · unfold Lib.decodeN
                  rw [if_neg c1, if_neg (by omega), if_neg (by omega), if_neg (by omega)]
                · obtain ⟨q, rfl, hq⟩ := hK K hk
                  rw [hh, if_neg h1, h2, if_neg h3]
          · refine Or.inl ⟨?_, fun K hk => ?_⟩
            · unfold Lib.decodeN
              rw [if_neg c1, if_neg (by omega), if_neg (by omega), if_neg (by omega)]
            · obtain ⟨q, rfl, hq⟩ := hK K hk
              rw [head_eq s acc i hs hi, if_neg c1, if_neg c2, if_neg c3, if_neg c4, if_neg c5]

/-- The code points that Go's decoder tells, from a place on. -/
def runesFrom (s : ByteArray) : Nat → Nat → List Int
  | 0, _ => []
  | f + 1, i => if i < s.size then ((Utf8.decode s i).1 : Int) :: runesFrom s f (i + (Utf8.decode s i).2) else []

/-- What is left from a place on. -/
theorem rest (s : ByteArray) (hs : s.size ≤ 16384) : ∀ (d i : Nat) (acc : List Int), i + d = s.size → acc.length ≤ i →
    (∀ K, 20 * (d + 1) ≤ K → spec_l3Runes.l0 K s acc i = if Lib.validD (s.data.toList.drop i) = true then some (acc ++ runesFrom s d i, true) else some ([], false)) ∧
      (Lib.validD (s.data.toList.drop i) = true → (runesFrom s d i).length = Lib.runeCountFrom s d i) := by
  intro d
  induction d using Nat.strongRecOn with
  | ind d ih =>
    intro i acc h1 h2
    cases d with
    | zero =>
      have hd : s.data.toList.drop i = [] := List.drop_of_length_le (by rw [← Lib.size_eq]; omega)
      refine ⟨fun K hK => ?_, fun _ => rfl⟩
      obtain ⟨k, rfl⟩ : ∃ q, K = q + 1 := ⟨K - 1, by omega⟩
      rw [hd, Lib.validD_nil, if_pos rfl, spec_l3Runes.l0, if_neg (by omega)]
      simp [runesFrom]
    | succ d =>
      have hne : s.data.toList.drop i ≠ [] := by
        intro e
        have := congrArg List.length e
        rw [List.length_drop, ← Lib.size_eq, List.length_nil] at this
        omega
      rw [Lib.validD_step _ hne, Lib.decodeL_drop]
      rcases round s acc i hs (by omega) (by omega) with ⟨he, hl⟩ | ⟨c, w, he, hn, hw1, hw2, hl⟩
      · have hv0 : (if ((65533, 1) : Nat × Nat).1 = 65533 ∧ ((65533, 1) : Nat × Nat).2 = 1 then false else Lib.validD ((s.data.toList.drop i).drop ((65533, 1) : Nat × Nat).2)) = false := if_pos ⟨rfl, rfl⟩
        rw [he, hv0]
        refine ⟨fun K hK => ?_, fun h => by simp at h⟩
        rw [hl K (by omega), if_neg (by simp)]
      · rw [he, if_neg hn, List.drop_drop]
        have hi' := ih (d + 1 - w) (by omega) (i + w) (acc ++ [(c : Int)]) (by omega) (by rw [List.length_append]; simp only [List.length_singleton]; omega)
        have hfu : ∀ f i, s.size ≤ i + f → ∀ g, s.size ≤ i + g → runesFrom s f i = runesFrom s g i := by
          intro f
          induction f with
          | zero =>
            intro i h g hg
            cases g with
            | zero => rfl
            | succ g => simp [runesFrom, show ¬ i < s.size by omega]
          | succ f ihf =>
            intro i h g hg
            cases g with
            | zero => simp [runesFrom, show ¬ i < s.size by omega]
            | succ g =>
              simp only [runesFrom]
              by_cases hlt : i < s.size
              · rw [if_pos hlt, if_pos hlt]
                have hp := Lib.decode_width_pos s i hlt
                rw [ihf _ (by omega) g (by omega)]
              · rw [if_neg hlt, if_neg hlt]
        have hfc : ∀ f i, s.size ≤ i + f → ∀ g, s.size ≤ i + g → Lib.runeCountFrom s f i = Lib.runeCountFrom s g i := by
          intro f
          induction f with
          | zero =>
            intro i h g hg
            rw [Lib.runeCountFrom_end s _ i (by omega), Lib.runeCountFrom_end s _ i (by omega)]
          | succ f ihf =>
            intro i h g hg
            by_cases hlt : i < s.size
            · cases g with
              | zero => omega
              | succ g =>
                have hp := Lib.decode_width_pos s i hlt
                simp only [Lib.runeCountFrom, if_pos hlt]
                rw [ihf _ (by omega) g (by omega)]
            · rw [Lib.runeCountFrom_end s _ i hlt, Lib.runeCountFrom_end s _ i hlt]
        have hr : runesFrom s (d + 1) i = (c : Int) :: runesFrom s (d + 1 - w) (i + w) := by
          simp only [runesFrom]
          rw [if_pos (by omega), he]
          show (c : Int) :: runesFrom s d (i + w) = _
          rw [hfu d (i + w) (by omega) (d + 1 - w) (by omega)]
        have hc : Lib.runeCountFrom s (d + 1) i = 1 + Lib.runeCountFrom s (d + 1 - w) (i + w) := by
          simp only [Lib.runeCountFrom]
          rw [if_pos (by omega), he]
          show 1 + Lib.runeCountFrom s d (i + w) = _
          rw [hfc d (i + w) (by omega) (d + 1 - w) (by omega)]
        refine ⟨fun K hK => ?_, fun hv => ?_⟩
        · obtain ⟨k', hk', e⟩ := hl K (by omega)
          rw [e, hi'.1 k' (by omega), hr]
          simp only [List.append_assoc, List.singleton_append]
        · rw [hr, hc, List.length_cons, hi'.2 hv]
          omega

theorem runes_some (s : ByteArray) (k : Nat) (hk : 400000 ≤ k) : spec_l3Runes.f k s = if s.size ≤ 16384 ∧ Lib.validD s.data.toList = true then some (runesFrom s s.size 0, true) else some ([], false) := by
  unfold spec_l3Runes.f
  rw [Option.bind_some]
  by_cases h : s.size ≤ 16384
  · have := (rest s h s.size 0 [] (by omega) (by simp)).1 k (by omega)
    rw [List.drop_zero, List.nil_append] at this
    rw [if_neg (by omega)]
    refine Eq.trans this ?_
    by_cases hv : Lib.validD s.data.toList = true
    · rw [if_pos hv, if_pos ⟨h, hv⟩]
    · rw [if_neg hv, if_neg (fun hh => hv hh.2)]
  · rw [if_pos (by omega), if_neg (fun hh => h hh.1)]

theorem runes_count (s : ByteArray) (h : s.size ≤ 16384) (hv : Lib.validD s.data.toList = true) : (runesFrom s s.size 0).length = Lib.runeCount s :=
  (rest s h s.size 0 [] (by omega) (by simp)).2 (by rw [List.drop_zero]; exact hv)

end Go.Proofs.YtfgiodolgmfdoaaDoor.PT
