/- Sums, differences, products and shifts of limbs, as the reference makes them. Plain law; no condition beyond those of the theorems. -/
import Derived.Test.YtghjbadanhplnaaLimbV
import Derived.Test.YtghjbadanhplnaaPFx4
import Derived.Test.YtghjbadanhplnaaPFx3
import Derived.Test.YtghjbadanhplnaaPFx2
import Derived.Laws.Bits64b
namespace Go.Proofs.Ytghjbadanhplnaa.PF
open Go.RowKit Go.Proofs.YtghjbadanhplnaaW.PrintWords Go.Proofs.YtghjbadanhplnaaW.PrintLast Go.Proofs.YtghjbadanhplnaaW.PrintMore Go.Proofs.Ytghjbadanhplnaa.Limb
set_option linter.unusedVariables false
set_option linter.unusedSimpArgs false

theorem wrap_in (i : Int) (h0 : -9223372036854775808 ≤ i) (h1 : i ≤ 9223372036854775807) : wrap64 i = i := by
  unfold wrap64
  omega
theorem wrapS (i : Nat) (h : i < 9000000000000000000) : wrap64 ((i : Int) + 1) = ((i + 1 : Nat) : Int) := by
  rw [wrap_in _ (by omega) (by omega)]
  omega
theorem u64_in (x : Int) (h0 : 0 ≤ x) (h1 : x < 18446744073709551616) : IntKind.u64.wrap x = x := by
  rw [IntKind.wrap_u64]
  omega
theorem and32 (x : Int) (h0 : 0 ≤ x) (h1 : x < 18446744073709551616) : Go.bits .and .u64 x 4294967295 = x % 4294967296 := by
  obtain ⟨a, rfl⟩ := Int.eq_ofNat_of_zero_le h0
  rw [show (4294967295 : Int) = ((2 ^ 32 - 1 : Nat) : Int) from rfl, bits_and_u64_nat a _ (by omega) (by decide), Nat.and_two_pow_sub_one_eq_mod]
  show ((a % 4294967296 : Nat) : Int) = (a : Int) % 4294967296
  omega
theorem rdI (l : List Int) (i : Nat) (h : i < l.length) : rd l (i : Int) = l[i] := by simp [rd, List.getElem?_eq_getElem h]
theorem digit (P t : Int) : P * (t % 4294967296) + P * 4294967296 * (t / 4294967296) = P * t := by
  have h : t % 4294967296 + 4294967296 * (t / 4294967296) = t := by omega
  rw [Int.mul_assoc, ← Int.mul_add, h]

/-- A list of limbs that stands for v. -/
def Good (r : List Int) (v : Int) : Prop := okL r ∧ trimL r ∧ valL r = v

theorem trim_loop (x : List Int) (hx : x.length ≤ 1000000) (ho : okL x) (n : Nat) : ∀ k, n ≤ x.length → n < k → ∃ r, spec_l1Trim.l0 k x (n : Int) = some r ∧ Good r (valL (x.take n)) ∧ r.length ≤ n := by
  induction n with
  | zero =>
    intro k hn hk
    obtain ⟨k, rfl⟩ : ∃ m, k = m + 1 := ⟨k - 1, by omega⟩
    rw [spec_l1Trim.l0, if_neg (by omega), Option.bind_some, if_pos (by omega), if_pos (by omega), if_pos (by simp)]
    exact ⟨[], by simp, ⟨okL_nil, trimL_nil, by simp⟩, by simp⟩
  | succ n ih =>
    intro k hn hk
    obtain ⟨k, rfl⟩ : ∃ m, k = m + 1 := ⟨k - 1, by omega⟩
    have hnL : n < x.length := by omega
    rw [spec_l1Trim.l0, if_pos (by omega), show (((n + 1 : Nat) : Int) - 1) = (n : Int) by omega, wrap_in (n : Int) (by omega) (by omega), if_pos (by omega), if_pos (by omega), rdI x n hnL]
    by_cases e : x[n] = 0
    · rw [if_pos e]
      obtain ⟨r, h1, ⟨h2, h3, h4⟩, h5⟩ := ih k (by omega) (by omega)
      refine ⟨r, h1, ⟨h2, h3, ?_⟩, by omega⟩
      rw [h4, valL_take_succ n hnL, e, Int.mul_zero, Int.add_zero]
    · rw [if_neg e, Option.bind_some, if_pos (by omega), if_pos (by omega), Int.toNat_natCast, if_pos (by rw [List.length_nil, List.length_take]; omega), List.nil_append]
      refine ⟨_, rfl, ⟨ho.take _, fun y hy => ?_, rfl⟩, by rw [List.length_take]; omega⟩
      rw [take_succ n hnL, List.getLast?_append] at hy
      simp at hy
      rw [← hy]
      exact e
theorem trim_some (x : List Int) (hx : x.length ≤ 1000000) (ho : okL x) (k : Nat) (hk : x.length < k) : ∃ r, spec_l1Trim.f k x = some r ∧ Good r (valL x) ∧ r.length ≤ x.length := by
  obtain ⟨r, h1, h2, h3⟩ := trim_loop x hx ho x.length k (Nat.le_refl _) hk
  rw [List.take_length] at h2
  exact ⟨r, h1, h2, h3⟩

theorem cmp_loop (a b : List Int) (hl : a.length = b.length) (hx : a.length ≤ 1000000) (ha : okL a) (hb : okL b) (j : Nat) : ∀ k, j ≤ a.length → a.drop j = b.drop j → j < k →
    ∃ c, spec_l1Cmp.l0 k a b ((j : Int) - 1) = some c ∧ ((c = -1 ∧ valL a < valL b) ∨ (c = 0 ∧ a = b) ∨ (c = 1 ∧ valL b < valL a)) := by
  induction j with
  | zero =>
    intro k hj hd hk
    obtain ⟨k, rfl⟩ : ∃ m, k = m + 1 := ⟨k - 1, by omega⟩
    rw [spec_l1Cmp.l0, if_neg (by omega)]
    exact ⟨0, rfl, Or.inr (Or.inl ⟨rfl, by simpa using hd⟩)⟩
  | succ j ih =>
    intro k hj hd hk
    obtain ⟨k, rfl⟩ : ∃ m, k = m + 1 := ⟨k - 1, by omega⟩
    have hja : j < a.length := by omega
    have hjb : j < b.length := by omega
    rw [spec_l1Cmp.l0, show (((j + 1 : Nat) : Int) - 1) = (j : Int) by omega, if_pos (by omega), if_pos (by omega), if_pos (by omega), if_pos (by omega), rdI a j hja, rdI b j hjb]
    by_cases e : a[j] = b[j]
    · rw [if_pos e, wrap_in ((j : Int) - 1) (by omega) (by omega)]
      exact ih k (by omega) (by rw [List.drop_eq_getElem_cons hja, List.drop_eq_getElem_cons hjb, e, hd]) (by omega)
    · rw [if_neg e]
      by_cases e2 : a[j] < b[j]
      · rw [if_pos e2]
        exact ⟨-1, rfl, Or.inl ⟨rfl, valL_top ha hb j hja hjb hd e2⟩⟩
      · rw [if_neg e2]
        exact ⟨1, rfl, Or.inr (Or.inr ⟨rfl, valL_top hb ha j hjb hja hd.symm (by omega)⟩)⟩
theorem cmp_some (a b : List Int) (u v : Int) (hx : a.length ≤ 1000000) (hy : b.length ≤ 1000000) (ha : Good a u) (hb : Good b v) (k : Nat) (hk : a.length < k) :
    ∃ c, spec_l1Cmp.f k a b = some c ∧ ((c = -1 ∧ u < v) ∨ (c = 0 ∧ u = v) ∨ (c = 1 ∧ v < u)) := by
  obtain ⟨a1, a2, rfl⟩ := ha
  obtain ⟨b1, b2, rfl⟩ := hb
  unfold spec_l1Cmp.f
  by_cases e : a.length = b.length
  · rw [if_pos (by omega), wrap_in ((a.length : Int) - 1) (by omega) (by omega)]
    obtain ⟨c, h1, h2⟩ := cmp_loop a b e hx a1 b1 a.length k (Nat.le_refl _) (by rw [List.drop_length, e, List.drop_length]) hk
    refine ⟨c, h1, ?_⟩
    rcases h2 with h | ⟨h, rfl⟩ | h
    · exact Or.inl h
    · exact Or.inr (Or.inl ⟨h, rfl⟩)
    · exact Or.inr (Or.inr h)
  · rw [if_neg (by omega)]
    by_cases e2 : a.length < b.length
    · rw [if_pos (by omega)]
      exact ⟨-1, rfl, Or.inl ⟨rfl, valL_shorter a1 b1 b2 e2⟩⟩
    · rw [if_neg (by omega)]
      exact ⟨1, rfl, Or.inr (Or.inr ⟨rfl, valL_shorter b1 a1 a2 (by omega)⟩)⟩

theorem take_more {l : List Int} {i : Nat} (h : l.length ≤ i) : valL (l.take (i + 1)) = valL (l.take i) := by
  rw [List.take_of_length_le h, List.take_of_length_le (by omega)]
theorem add_loop (a b : List Int) (ha : okL a) (hb : okL b) (M : Nat) (hM : M = max a.length b.length) (hx : M ≤ 100000) (d : Nat) : ∀ (k i : Nat) (out : List Int) (c : Int), i + d = M → out.length = i → okL out → 0 ≤ c → c ≤ 1 →
    valL out + 4294967296 ^ i * c = valL (a.take i) + valL (b.take i) → 2 * d + M + 10 < k → ∃ r, spec_l1AddMag.l0 k a b out c (i : Int) = some r ∧ Good r (valL a + valL b) ∧ r.length ≤ M + 1 := by
  induction d with
  | zero =>
    intro k i out c hi hl ho h0 h1 hv hk
    obtain ⟨k, rfl⟩ : ∃ m, k = m + 2 := ⟨k - 2, by omega⟩
    rw [show k + 2 = (k + 1) + 1 from rfl, spec_l1AddMag.l0, if_neg (by omega), show decide ((i : Int) < (b.length : Int)) = false from decide_eq_false (by omega), spec_l1AddMag.j1, if_neg (by decide), if_pos (by omega), Int.emod_eq_of_lt h0 (by omega)]
    have hol : (out ++ [c]).length = i + 1 := by rw [List.length_append, hl]; rfl
    obtain ⟨r, e1, e2, e3⟩ := trim_some (out ++ [c]) (by omega) (ho.snoc h0 (by omega)) k (by omega)
    rw [e1, Option.bind_some]
    rw [valL_snoc, hl, hv, List.take_of_length_le (by omega), List.take_of_length_le (by omega)] at e2
    exact ⟨r, rfl, e2, by omega⟩
  | succ d ih =>
    intro k i out c hi hl ho h0 h1 hv hk
    obtain ⟨k, rfl⟩ : ∃ m, k = m + 2 := ⟨k - 2, by omega⟩
    have hj : spec_l1AddMag.l0 (k + 1 + 1) a b out c (i : Int) = spec_l1AddMag.j1 (k + 1) a b out c (i : Int) true := by
      rw [spec_l1AddMag.l0]
      by_cases e : (i : Int) < (a.length : Int)
      · rw [if_pos e]
      · rw [if_neg e, show decide ((i : Int) < (b.length : Int)) = true from decide_eq_true (by omega)]
    rw [show k + 2 = k + 1 + 1 from rfl, hj, spec_l1AddMag.j1, if_pos rfl]
    have step : ∀ t : Int, 0 ≤ t → t ≤ 2 * 4294967295 + 1 → valL out + 4294967296 ^ i * t = valL (a.take (i + 1)) + valL (b.take (i + 1)) → ∃ r, spec_l1AddMag.l0 k a b (out ++ [(Go.bits .and .u64 t 4294967295) % 4294967296]) (t / 4294967296) (wrap64 ((i : Int) + 1)) = some r ∧ Good r (valL a + valL b) ∧ r.length ≤ M + 1 := by
      intro t t0 t1 ht
      rw [and32 t t0 (by omega), show t % 4294967296 % 4294967296 = t % 4294967296 by omega, wrapS i (by omega)]
      refine ih k (i + 1) _ _ (by omega) (by rw [List.length_append, hl]; rfl) (ho.snoc (by omega) (by omega)) (by omega) (by omega) ?_ (by omega)
      rw [valL_snoc, hl, Int.pow_succ, Int.add_assoc, digit, ht]
    by_cases ea : i < a.length
    · have hai := ha.get i ea
      rw [if_pos (by omega), if_pos (by omega), rdI a i ea]
      by_cases eb : i < b.length
      · have hbi := hb.get i eb
        rw [if_pos (by omega), if_pos (by omega), rdI b i eb, u64_in a[i] (by omega) (by omega), u64_in b[i] (by omega) (by omega), u64_in (c + a[i]) (by omega) (by omega), u64_in (c + a[i] + b[i]) (by omega) (by omega)]
        refine step (c + a[i] + b[i]) (by omega) (by omega) ?_
        rw [valL_take_succ i ea, valL_take_succ i eb, Int.mul_add, Int.mul_add]
        omega
      · rw [if_neg (by omega), if_pos (by omega), u64_in a[i] (by omega) (by omega), u64_in (c + a[i]) (by omega) (by omega)]
        refine step (c + a[i]) (by omega) (by omega) ?_
        rw [valL_take_succ i ea, take_more (by omega), Int.mul_add]
        omega
    · have eb : i < b.length := by omega
      have hbi := hb.get i eb
      rw [if_neg (by omega), if_pos (by omega), if_pos (by omega), if_pos (by omega), rdI b i eb, u64_in b[i] (by omega) (by omega), u64_in (c + b[i]) (by omega) (by omega)]
      refine step (c + b[i]) (by omega) (by omega) ?_
      rw [valL_take_succ i eb, take_more (by omega), Int.mul_add]
      omega
theorem add_some (a b : List Int) (u v : Int) (ha : Good a u) (hb : Good b v) (hx : a.length ≤ 100000) (hy : b.length ≤ 100000) (k : Nat) (hk : 400000 ≤ k) : ∃ r, spec_l1AddMag.f k a b = some r ∧ Good r (u + v) ∧ r.length ≤ max a.length b.length + 1 := by
  obtain ⟨a1, a2, rfl⟩ := ha
  obtain ⟨b1, b2, rfl⟩ := hb
  unfold spec_l1AddMag.f
  exact add_loop a b a1 b1 (max a.length b.length) rfl (by omega) (max a.length b.length) k 0 [] 0 (by omega) rfl okL_nil (by omega) (by omega) (by simp [valL]) (by omega)

theorem sub_loop (a b : List Int) (ha : okL a) (hb : okL b) (hlen : b.length ≤ a.length) (hle : valL b ≤ valL a) (hx : a.length ≤ 100000) (d : Nat) : ∀ (k i : Nat) (out : List Int) (c : Int), i + d = a.length → out.length = i → okL out → 0 ≤ c → c ≤ 1 →
    valL out - 4294967296 ^ i * c = valL (a.take i) - valL (b.take i) → d + a.length + 10 < k → ∃ r, spec_l1SubMag.l0 k a b out c (i : Int) = some r ∧ Good r (valL a - valL b) ∧ r.length ≤ a.length := by
  induction d with
  | zero =>
    intro k i out c hi hl ho h0 h1 hv hk
    obtain ⟨k, rfl⟩ : ∃ m, k = m + 1 := ⟨k - 1, by omega⟩
    rw [spec_l1SubMag.l0, if_neg (by omega)]
    obtain ⟨r, e1, e2, e3⟩ := trim_some out (by omega) ho k (by omega)
    rw [e1, Option.bind_some]
    rw [List.take_of_length_le (by omega), List.take_of_length_le (by omega)] at hv
    have h2 := valL_lt ho
    have hc : c = 0 := by
      rcases (show c = 0 ∨ c = 1 by omega) with h | h
      · exact h
      · rw [h, Int.mul_one, ← hl] at hv
        omega
    rw [hc, Int.mul_zero, Int.sub_zero] at hv
    rw [hv] at e2
    exact ⟨r, rfl, e2, by omega⟩
  | succ d ih =>
    intro k i out c hi hl ho h0 h1 hv hk
    obtain ⟨k, rfl⟩ : ∃ m, k = m + 1 := ⟨k - 1, by omega⟩
    have ea : i < a.length := by omega
    have hai := ha.get i ea
    rw [spec_l1SubMag.l0, if_pos (by omega), if_pos (by omega), rdI a i ea, wrap_in a[i] (by omega) (by omega), wrap_in (a[i] - c) (by omega) (by omega)]
    have step : ∀ t : Int, -4294967296 ≤ t → t ≤ 4294967295 → valL out + 4294967296 ^ i * t = valL (a.take (i + 1)) - valL (b.take (i + 1)) →
        (∃ r, (if t < 0 then (if out.length < 35184372088832 then (spec_l1SubMag.l0 k a b (out ++ [(wrap64 (t + 4294967296)) % 4294967296]) 1 (wrap64 ((i : Int) + 1))) else (none)) else (if out.length < 35184372088832 then (spec_l1SubMag.l0 k a b (out ++ [t % 4294967296]) 0 (wrap64 ((i : Int) + 1))) else (none))) = some r ∧ Good r (valL a - valL b) ∧ r.length ≤ a.length) := by
      intro t t0 t1 ht
      rw [wrapS i (by omega)]
      by_cases e : t < 0
      · rw [if_pos e, if_pos (by omega), wrap_in (t + 4294967296) (by omega) (by omega), Int.emod_eq_of_lt (by omega) (by omega)]
        refine ih k (i + 1) _ _ (by omega) (by rw [List.length_append, hl]; rfl) (ho.snoc (by omega) (by omega)) (by omega) (by omega) ?_ (by omega)
        rw [valL_snoc, hl, Int.pow_succ, Int.mul_add, Int.mul_one]
        omega
      · rw [if_neg e, if_pos (by omega), Int.emod_eq_of_lt (by omega) (by omega)]
        refine ih k (i + 1) _ _ (by omega) (by rw [List.length_append, hl]; rfl) (ho.snoc (by omega) (by omega)) (by omega) (by omega) ?_ (by omega)
        rw [valL_snoc, hl, Int.mul_zero]
        omega
    by_cases eb : i < b.length
    · have hbi := hb.get i eb
      rw [if_pos (by omega), rdI b i eb, wrap_in b[i] (by omega) (by omega), wrap_in (a[i] - c - b[i]) (by omega) (by omega)]
      refine step (a[i] - c - b[i]) (by omega) (by omega) ?_
      rw [valL_take_succ i ea, valL_take_succ i eb, Int.mul_sub, Int.mul_sub]
      omega
    · rw [if_neg (by omega)]
      refine step (a[i] - c) (by omega) (by omega) ?_
      rw [valL_take_succ i ea, take_more (by omega), Int.mul_sub]
      omega
theorem sub_some (a b : List Int) (u v : Int) (ha : Good a u) (hb : Good b v) (hle : v ≤ u) (hx : a.length ≤ 100000) (k : Nat) (hk : 400000 ≤ k) : ∃ r, spec_l1SubMag.f k a b = some r ∧ Good r (u - v) ∧ r.length ≤ a.length := by
  obtain ⟨a1, a2, rfl⟩ := ha
  obtain ⟨b1, b2, rfl⟩ := hb
  have hlen : b.length ≤ a.length := by
    rcases Nat.lt_or_ge a.length b.length with h | h
    · have := valL_shorter a1 b1 b2 h
      omega
    · exact h
  unfold spec_l1SubMag.f
  exact sub_loop a b a1 b1 hlen hle hx a.length k 0 [] 0 (by omega) rfl okL_nil (by omega) (by omega) (by simp [valL]) (by omega)

theorem getD_set (l : List Int) (p q : Nat) (x : Int) (h : p ≠ q) : (l.set p x).getD q 0 = l.getD q 0 := by
  rw [List.getD_eq_getElem?_getD, List.getD_eq_getElem?_getD, List.getElem?_set_ne h]
theorem mul_le (x y : Int) (x0 : 0 ≤ x) (x1 : x ≤ 4294967295) (y0 : 0 ≤ y) (y1 : y ≤ 4294967295) : 0 ≤ x * y ∧ x * y ≤ 18446744065119617025 := by
  refine ⟨Int.mul_nonneg x0 y0, ?_⟩
  have h := Int.mul_le_mul x1 y1 y0 (show (0 : Int) ≤ 4294967295 by decide)
  exact h
theorem mul_in (a b : List Int) (ha : okL a) (hb : okL b) (hx : a.length + b.length ≤ 100000) (i : Nat) (hi : i < a.length) (V0 : Int) (C : Nat)
    (next : ∀ (k : Nat) (out : List Int), out.length = a.length + b.length → okL out → (∀ p, i + 1 + b.length ≤ p → out.getD p 0 = 0) → valL out = V0 + 4294967296 ^ i * a[i] * valL b → C ≤ k → ∃ r, spec_l1MulMag.l0 k a b out ((i + 1 : Nat) : Int) = some r ∧ Good r (valL a * valL b) ∧ r.length ≤ a.length + b.length) (d : Nat) :
    ∀ (k j : Nat) (out : List Int) (c : Int), j + d = b.length → out.length = a.length + b.length → okL out → (∀ p, i + b.length ≤ p → out.getD p 0 = 0) → 0 ≤ c → c ≤ 4294967295 →
    valL out + 4294967296 ^ (i + j) * c = V0 + 4294967296 ^ i * a[i] * valL (b.take j) → C + d + 1 ≤ k → ∃ r, spec_l1MulMag.l1 k a b out (i : Int) c (j : Int) = some r ∧ Good r (valL a * valL b) ∧ r.length ≤ a.length + b.length := by
  have hai := ha.get i hi
  induction d with
  | zero =>
    intro k j out c hj hl ho hz h0 h1 hv hk
    obtain ⟨k, rfl⟩ : ∃ m, k = m + 1 := ⟨k - 1, by omega⟩
    have hp : i + b.length < out.length := by omega
    rw [spec_l1MulMag.l1, if_neg (by omega), wrap_in ((i : Int) + (b.length : Int)) (by omega) (by omega), if_pos (by omega), if_pos (by omega), wrapS i (by omega), show (((i : Int) + (b.length : Int)).toNat) = i + b.length by omega, Int.emod_eq_of_lt h0 (by omega)]
    have hz0 : out[i + b.length] = 0 := by
      have := hz (i + b.length) (Nat.le_refl _)
      rw [List.getD_eq_getElem?_getD, List.getElem?_eq_getElem hp] at this
      exact this
    refine next k _ (by rw [List.length_set, hl]) (ho.set _ _ h0 h1) (fun p hp2 => ?_) ?_ (by omega)
    · rw [getD_set _ _ _ _ (by omega)]
      exact hz p (by omega)
    · rw [valL_set out _ _ hp, hz0, Int.sub_zero]
      rw [show j = b.length by omega, List.take_length] at hv
      exact hv
  | succ d ih =>
    intro k j out c hj hl ho hz h0 h1 hv hk
    obtain ⟨k, rfl⟩ : ∃ m, k = m + 1 := ⟨k - 1, by omega⟩
    have ej : j < b.length := by omega
    have hbj := hb.get j ej
    have hp : i + j < out.length := by omega
    have hop := ho.get (i + j) hp
    have hm := mul_le a[i] b[j] hai.1 hai.2 hbj.1 hbj.2
    rw [spec_l1MulMag.l1, if_pos (by omega), if_pos (by omega), if_pos (by omega), if_pos (by omega), wrap_in ((i : Int) + (j : Int)) (by omega) (by omega), if_pos (by omega), if_pos (by omega), wrapS j (by omega), show (((i : Int) + (j : Int)).toNat) = i + j by omega, rdI a i hi, rdI b j ej, show ((i : Int) + (j : Int)) = ((i + j : Nat) : Int) by omega, rdI out (i + j) hp,
      u64_in a[i] (by omega) (by omega), u64_in b[j] (by omega) (by omega), u64_in out[i + j] (by omega) (by omega)]
    rw [u64_in (a[i] * b[j]) (by omega) (by omega), u64_in (a[i] * b[j] + out[i + j]) (by omega) (by omega), u64_in (a[i] * b[j] + out[i + j] + c) (by omega) (by omega), and32 _ (by omega) (by omega)]
    obtain ⟨t, ht⟩ : ∃ t, a[i] * b[j] + out[i + j] + c = t := ⟨_, rfl⟩
    rw [ht, show t % 4294967296 % 4294967296 = t % 4294967296 by omega]
    refine ih k (j + 1) _ _ (by omega) (by rw [List.length_set, hl]) (ho.set _ _ (by omega) (by omega)) (fun p hp2 => ?_) (by omega) (by omega) ?_ (by omega)
    · rw [getD_set _ _ _ _ (by omega)]
      exact hz p hp2
    · rw [valL_set out _ _ hp, valL_take_succ j ej, show i + (j + 1) = (i + j) + 1 by omega, Int.pow_succ, Int.mul_sub]
      have hd := digit (4294967296 ^ (i + j)) t
      have hpw : (4294967296 : Int) ^ (i + j) = 4294967296 ^ i * 4294967296 ^ j := Int.pow_add ..
      have e1 : 4294967296 ^ i * a[i] * (valL (b.take j) + 4294967296 ^ j * b[j]) = 4294967296 ^ i * a[i] * valL (b.take j) + 4294967296 ^ (i + j) * (a[i] * b[j]) := by
        rw [Int.mul_add, hpw]
        congr 1
        rw [Int.mul_assoc, Int.mul_assoc, Int.mul_left_comm a[i] (4294967296 ^ j) b[j]]
      have e2 : 4294967296 ^ (i + j) * t = 4294967296 ^ (i + j) * (a[i] * b[j]) + 4294967296 ^ (i + j) * out[i + j] + 4294967296 ^ (i + j) * c := by
        rw [← ht, Int.mul_add, Int.mul_add]
      rw [e1]
      omega
theorem mul_out (a b : List Int) (ha : okL a) (hb : okL b) (hx : a.length + b.length ≤ 100000) (d : Nat) : ∀ (k i : Nat) (out : List Int), i + d = a.length → out.length = a.length + b.length → okL out → (∀ p, i + b.length ≤ p → out.getD p 0 = 0) →
    valL out = valL (a.take i) * valL b → (d + 1) * (b.length + 2) + a.length + b.length + 10 ≤ k → ∃ r, spec_l1MulMag.l0 k a b out (i : Int) = some r ∧ Good r (valL a * valL b) ∧ r.length ≤ a.length + b.length := by
  induction d with
  | zero =>
    intro k i out hi hl ho hz hv hk
    obtain ⟨k, rfl⟩ : ∃ m, k = m + 1 := ⟨k - 1, by omega⟩
    rw [spec_l1MulMag.l0, if_neg (by omega)]
    obtain ⟨r, e1, e2, e3⟩ := trim_some out (by omega) ho k (by omega)
    rw [e1, Option.bind_some]
    rw [hv, List.take_of_length_le (by omega)] at e2
    exact ⟨r, rfl, e2, by omega⟩
  | succ d ih =>
    intro k i out hi hl ho hz hv hk
    obtain ⟨k, rfl⟩ : ∃ m, k = m + 1 := ⟨k - 1, by omega⟩
    have ea : i < a.length := by omega
    rw [spec_l1MulMag.l0, if_pos (by omega)]
    rw [Nat.add_mul, Nat.one_mul] at hk
    refine mul_in a b ha hb hx i ea (valL (a.take i) * valL b) ((d + 1) * (b.length + 2) + a.length + b.length + 10) (fun k out hl ho hz hv hk => ih k (i + 1) out (by omega) hl ho hz ?_ hk) b.length k 0 out 0 (by omega) hl ho hz (by omega) (by omega) ?_ (by omega)
    · rw [hv, valL_take_succ i ea, Int.add_mul]
    · rw [hv, List.take_zero]
      simp [valL]
theorem mul_some (a b : List Int) (u v : Int) (ha : Good a u) (hb : Good b v) (hx : a.length + b.length ≤ 100000) (k : Nat) (hk : (a.length + 1) * (b.length + 2) + a.length + b.length + 10 ≤ k) : ∃ r, spec_l1MulMag.f k a b = some r ∧ Good r (u * v) ∧ r.length ≤ a.length + b.length := by
  obtain ⟨a1, a2, rfl⟩ := ha
  obtain ⟨b1, b2, rfl⟩ := hb
  unfold spec_l1MulMag.f
  rw [wrap_in ((a.length : Int) + (b.length : Int)) (by omega) (by omega), if_pos (by omega), if_pos (by omega), show (((a.length : Int) + (b.length : Int)).toNat) = a.length + b.length by omega]
  refine mul_out a b a1 b1 hx a.length k 0 _ (by omega) (by rw [List.length_replicate]) (okL_zeros _) (fun p hp => ?_) ?_ hk
  · rw [List.getD_eq_getElem?_getD, List.getElem?_replicate]
    split <;> rfl
  · rw [valL_zeros, List.take_zero]
    simp [valL]

theorem good_nil : Good [] 0 := ⟨okL_nil, trimL_nil, rfl⟩
theorem shl32 (s : Int) (h0 : 0 ≤ s) (h1 : s < 32) : shl .u32 1 s = 2 ^ s.toNat := by
  have h : ∀ t : Fin 32, shl .u32 1 ((t.val : Nat) : Int) = 2 ^ t.val := by decide
  obtain ⟨n, rfl⟩ := Int.eq_ofNat_of_zero_le h0
  exact h ⟨n, by omega⟩
theorem pow2_lt (n : Nat) (h : n < 32) : (1 : Int) ≤ 2 ^ n ∧ (2 : Int) ^ n ≤ 4294967295 := by
  have h : ∀ t : Fin 32, (1 : Int) ≤ 2 ^ t.val ∧ (2 : Int) ^ t.val ≤ 4294967295 := by decide
  exact h ⟨n, by omega⟩
theorem pow_split (n : Nat) : (4294967296 : Int) ^ (n / 32) * 2 ^ (n % 32) = 2 ^ n := by
  rw [show (4294967296 : Int) = 2 ^ 32 from rfl, ← Int.pow_mul, ← Int.pow_add, Nat.div_add_mod]
theorem shl_some (a : List Int) (u : Int) (n : Nat) (ha : Good a u) (hx : a.length ≤ 10000) (hn : n ≤ 100000) (k : Nat) (hk : 100000 ≤ k) : ∃ r, spec_l1ShlMag.f k a (n : Int) = some r ∧ Good r (u * 2 ^ n) ∧ r.length ≤ a.length + n / 32 + 1 := by
  unfold spec_l1ShlMag.f
  by_cases e : a = []
  · subst e
    obtain ⟨_, _, h⟩ := ha
    have hu : u = 0 := h.symm
    rw [if_pos (show (([] : List Int).length : Int) = 0 from rfl)]
    exact ⟨[], rfl, by rw [hu, Int.zero_mul]; exact good_nil, by simp⟩
  · have hp := List.length_pos_iff.2 e
    have h1 : Int.tdiv (n : Int) 32 = ((n / 32 : Nat) : Int) := by rw [Int.tdiv_eq_ediv_of_nonneg (by omega)]; omega
    have h2 : Int.tmod (n : Int) 32 = ((n % 32 : Nat) : Int) := by rw [Int.tmod_eq_emod_of_nonneg (by omega)]; omega
    have h3 := pow2_lt (n % 32) (by omega)
    rw [if_neg (by omega), h1, h2, wrap_in ((n / 32 : Nat) : Int) (by omega) (by omega), if_pos (by omega), Int.toNat_natCast, if_pos (by omega), Option.bind_some, u64_in ((n % 32 : Nat) : Int) (by omega) (by omega), if_pos (by omega), shl32 _ (by omega) (by omega), Int.toNat_natCast]
    have hg : Good [(2 : Int) ^ (n % 32)] (2 ^ (n % 32)) := ⟨fun x hx => by rw [List.mem_singleton.1 hx]; omega, fun x hx => by simp at hx; omega, by simp [valL]⟩
    obtain ⟨m, e1, ⟨m1, m2, m3⟩, m4⟩ := mul_some a _ u _ ha hg (by simp; omega) k (by simp; omega)
    rw [e1, Option.bind_some, if_pos (by rw [List.length_replicate]; simp at m4; omega)]
    simp at m4
    obtain ⟨r, e2, ⟨r1, r2, r3⟩, r4⟩ := trim_some (List.replicate (n / 32) 0 ++ m) (by rw [List.length_append, List.length_replicate]; omega) ((okL_zeros _).append m1) k (by rw [List.length_append, List.length_replicate]; omega)
    rw [e2, Option.bind_some]
    refine ⟨r, rfl, ⟨r1, r2, ?_⟩, by rw [List.length_append, List.length_replicate] at r4; omega⟩
    rw [r3, valL_append, valL_zeros, List.length_replicate, m3, Int.zero_add, Int.mul_left_comm, pow_split]

end Go.Proofs.Ytghjbadanhplnaa.PF
