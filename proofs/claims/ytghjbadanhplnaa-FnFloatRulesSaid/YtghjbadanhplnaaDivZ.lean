/- Bits and quotients of limbs, as the reference makes them. Plain law; no condition beyond those of the theorems. -/
import Derived.Test.YtghjbadanhplnaaLimbZ
import Derived.Test.YtghjbadanhplnaaPGx1
namespace Go.Proofs.Ytghjbadanhplnaa.PF
open Go.RowKit Go.Proofs.YtghjbadanhplnaaW.PrintWords Go.Proofs.YtghjbadanhplnaaW.PrintLast Go.Proofs.YtghjbadanhplnaaW.PrintMore Go.Proofs.Ytghjbadanhplnaa.Limb
set_option linter.unusedVariables false
set_option linter.unusedSimpArgs false

theorem p2_pos (n : Nat) : (0 : Int) < 2 ^ n := Int.pow_pos (by decide)
theorem p2_mono {a b : Nat} (h : a ≤ b) : (2 : Int) ^ a ≤ 2 ^ b := by
  obtain ⟨d, rfl⟩ : ∃ d, b = a + d := ⟨b - a, by omega⟩
  have h1 := p2_pos a
  have h2 := p2_pos d
  rw [Int.pow_add]
  have h3 := Int.mul_le_mul_of_nonneg_left (show (1 : Int) ≤ 2 ^ d by omega) (Int.le_of_lt h1)
  rw [Int.mul_one] at h3
  exact h3
theorem big_pow (n : Nat) : (4294967296 : Int) ^ n = 2 ^ (32 * n) := by
  rw [Int.pow_mul]
  rfl
/-- v has n bits. -/
def isBits (v : Int) (n : Nat) : Prop := (v = 0 ∧ n = 0) ∨ (0 < n ∧ 2 ^ (n - 1) ≤ v ∧ v < 2 ^ n)
theorem isBits_lt {v : Int} {n : Nat} (h : isBits v n) : v < 2 ^ n := by
  rcases h with ⟨rfl, rfl⟩ | ⟨_, _, h⟩
  · decide
  · exact h
theorem bits_loop (x3 : Int) (h3 : 1 ≤ x3) (h4 : x3 ≤ 100000) (d : Nat) : ∀ (k c : Nat) (x : Int), 0 ≤ x → x < 2 ^ d → c + d ≤ 1000 → d < k → ∃ b : Nat, spec_l1BitsMag.l0 k x3 (c : Int) x = some (32 * (x3 - 1) + ((c + b : Nat) : Int)) ∧ isBits x b ∧ b ≤ d := by
  induction d with
  | zero =>
    intro k c x h0 h1 hc hk
    obtain ⟨k, rfl⟩ : ∃ m, k = m + 1 := ⟨k - 1, by omega⟩
    have hx : x = 0 := by simp at h1; omega
    rw [spec_l1BitsMag.l0, if_neg (by omega), wrap_in (x3 - 1) (by omega) (by omega), wrap_in (32 * (x3 - 1)) (by omega) (by omega), wrap_in _ (by omega) (by omega)]
    exact ⟨0, rfl, Or.inl ⟨hx, rfl⟩, Nat.le_refl _⟩
  | succ d ih =>
    intro k c x h0 h1 hc hk
    obtain ⟨k, rfl⟩ : ∃ m, k = m + 1 := ⟨k - 1, by omega⟩
    by_cases hx : x > 0
    · rw [spec_l1BitsMag.l0, if_pos hx, wrapS c (by omega)]
      rw [Int.pow_succ] at h1
      obtain ⟨b, e1, e2, e3⟩ := ih k (c + 1) (x / 2) (by omega) (by omega) (by omega) (by omega)
      refine ⟨b + 1, ?_, Or.inr ⟨by omega, ?_, ?_⟩, by omega⟩
      · rw [e1, show c + 1 + b = c + (b + 1) by omega]
      · rw [Nat.add_sub_cancel]
        rcases e2 with ⟨e4, rfl⟩ | ⟨e4, e5, e6⟩
        · simp
          omega
        · obtain ⟨m, rfl⟩ : ∃ m, b = m + 1 := ⟨b - 1, by omega⟩
          rw [Nat.add_sub_cancel] at e5
          rw [Int.pow_succ]
          omega
      · have := isBits_lt e2
        rw [Int.pow_succ]
        omega
    · have hx0 : x = 0 := by omega
      rw [spec_l1BitsMag.l0, if_neg hx, wrap_in (x3 - 1) (by omega) (by omega), wrap_in (32 * (x3 - 1)) (by omega) (by omega), wrap_in _ (by omega) (by omega)]
      exact ⟨0, rfl, Or.inl ⟨hx0, rfl⟩, by omega⟩
theorem bitsMag_some (l : List Int) (v : Int) (h : Good l v) (hx : l.length ≤ 100000) (k : Nat) (hk : 100 ≤ k) : ∃ b : Nat, spec_l1BitsMag.f k l = some (b : Int) ∧ isBits v b ∧ b ≤ 32 * l.length := by
  obtain ⟨h1, h2, rfl⟩ := h
  unfold spec_l1BitsMag.f
  by_cases e : l = []
  · subst e
    rw [if_pos (show (([] : List Int).length : Int) = 0 from rfl)]
    exact ⟨0, rfl, Or.inl ⟨rfl, rfl⟩, by simp⟩
  · have hp := List.length_pos_iff.2 e
    have hL : l.length - 1 < l.length := by omega
    rw [if_neg (by omega), wrap_in ((l.length : Int) - 1) (by omega) (by omega), if_pos (by omega), if_pos (by omega), show ((l.length : Int) - 1) = ((l.length - 1 : Nat) : Int) by omega, rdI l _ hL]
    have ht := h1.get _ hL
    have hne : l[l.length - 1] ≠ 0 := h2 _ (by rw [List.getLast?_eq_getElem?, List.getElem?_eq_getElem hL])
    obtain ⟨b, e1, e2, e3⟩ := bits_loop (l.length : Int) (by omega) (by omega) 32 k 0 l[l.length - 1] ht.1 (by have := ht.2; omega) (by omega) (by omega)
    have e1 : spec_l1BitsMag.l0 k (l.length : Int) 0 l[l.length - 1] = some (32 * ((l.length : Int) - 1) + ((0 + b : Nat) : Int)) := e1
    rw [e1]
    refine ⟨32 * (l.length - 1) + b, by congr 1; omega, ?_, by omega⟩
    have hv : valL l = valL (l.take (l.length - 1)) + 4294967296 ^ (l.length - 1) * l[l.length - 1] := by
      rw [← valL_take_succ _ hL, show l.length - 1 + 1 = l.length by omega, List.take_length]
    have hlo := valL_lt (h1.take (l.length - 1))
    rw [List.length_take, Nat.min_eq_left (by omega)] at hlo
    have hlo0 := valL_nonneg (h1.take (l.length - 1))
    rcases e2 with ⟨e4, _⟩ | ⟨e4, e5, e6⟩
    · exact absurd e4 hne
    · rw [hv, big_pow] at *
      have hpp := p2_pos (32 * (l.length - 1))
      refine Or.inr ⟨by omega, ?_, ?_⟩
      · rw [show 32 * (l.length - 1) + b - 1 = 32 * (l.length - 1) + (b - 1) by omega, Int.pow_add]
        have := Int.mul_le_mul_of_nonneg_left e5 (Int.le_of_lt hpp)
        omega
      · rw [Int.pow_add]
        have h5 : 2 ^ (32 * (l.length - 1)) * (l[l.length - 1] + 1) ≤ 2 ^ (32 * (l.length - 1)) * 2 ^ b := Int.mul_le_mul_of_nonneg_left (by omega) (Int.le_of_lt hpp)
        rw [Int.mul_add, Int.mul_one] at h5
        omega

theorem u32_in (n : Int) (h₀ : 0 ≤ n) (h₁ : n < 2 ^ 32) : IntKind.u32.wrap n = n := by
  rw [IntKind.wrap_u32]
  omega
theorem and1 (x : Int) (h0 : 0 ≤ x) (h1 : x < 4294967296) : Go.bits .and .u32 x 1 = x % 2 := by
  have := bits_mask .u32 32 (by decide) u32_in 1 (by decide) x h0 (by omega)
  exact this
/-- The limbs from place q on: the value, divided. -/
theorem valL_drop (l : List Int) (h : okL l) (q : Nat) (hq : q ≤ l.length) : valL l / 4294967296 ^ q = valL (l.drop q) := by
  have h1 : valL l = valL (l.take q) + 4294967296 ^ q * valL (l.drop q) := by
    have h2 : valL (l.take q ++ l.drop q) = _ := valL_append (l.take q) (l.drop q)
    rw [List.take_append_drop, List.length_take, Nat.min_eq_left hq] at h2
    exact h2
  have hlt := valL_lt (h.take q)
  rw [List.length_take, Nat.min_eq_left hq] at hlt
  have hp := pow_pos q
  rw [h1, Int.add_mul_ediv_left _ _ (by omega), Int.ediv_eq_zero_of_lt (valL_nonneg (h.take q)) hlt, Int.zero_add]
theorem bit_limb (x rest : Int) (r : Nat) (hr : r < 32) : ((x + 4294967296 * rest) / 2 ^ r) % 2 = (x / 2 ^ r) % 2 := by
  have h1 : (4294967296 : Int) = 2 ^ r * (2 * 2 ^ (31 - r)) := by
    rw [show (2 : Int) * 2 ^ (31 - r) = 2 ^ (31 - r + 1) by rw [Int.pow_succ, Int.mul_comm], ← Int.pow_add, show r + (31 - r + 1) = 32 by omega]
    rfl
  have hp := p2_pos r
  rw [h1, Int.mul_assoc, Int.add_mul_ediv_left _ _ (by omega), Int.mul_assoc 2, Int.add_mul_emod_self_left]
theorem bitMag_some (l : List Int) (v : Int) (h : Good l v) (hx : l.length ≤ 100000) (i : Nat) (hi : i ≤ 10000000) : spec_l1BitMag.f l (i : Int) = some ((v / 2 ^ i) % 2) := by
  obtain ⟨h1, h2, rfl⟩ := h
  unfold spec_l1BitMag.f
  have e1 : Int.tdiv (i : Int) 32 = ((i / 32 : Nat) : Int) := by rw [Int.tdiv_eq_ediv_of_nonneg (by omega)]; omega
  have e2 : Int.tmod (i : Int) 32 = ((i % 32 : Nat) : Int) := by rw [Int.tmod_eq_emod_of_nonneg (by omega)]; omega
  rw [e1, e2, wrap_in ((i / 32 : Nat) : Int) (by omega) (by omega)]
  have hpow : (2 : Int) ^ i = 4294967296 ^ (i / 32) * 2 ^ (i % 32) := (pow_split i).symm
  by_cases c : l.length ≤ i / 32
  · rw [if_pos (by omega)]
    have h3 := valL_lt h1
    have h4 := pow_mono c
    have h5 := p2_pos (i % 32)
    have h6 := Int.mul_le_mul_of_nonneg_left (show (1 : Int) ≤ 2 ^ (i % 32) by omega) (Int.le_of_lt (pow_pos (i / 32)))
    rw [Int.mul_one, ← hpow] at h6
    rw [Int.ediv_eq_zero_of_lt (valL_nonneg h1) (by omega)]
    rfl
  · have hq : i / 32 < l.length := by omega
    have hx0 := h1.get _ hq
    rw [if_neg (by omega), if_pos (by omega), if_pos (by omega), u64_in ((i % 32 : Nat) : Int) (by omega) (by omega), if_pos (by omega), rdI l _ hq]
    have hs : shr .u32 l[i / 32] ((i % 32 : Nat) : Int) = l[i / 32] / 2 ^ (i % 32) := by
      unfold shr
      rw [Int.toNat_natCast, Nat.min_eq_left (by show i % 32 ≤ 32; omega)]
    have hp := p2_pos (i % 32)
    have hd0 : 0 ≤ l[i / 32] / 2 ^ (i % 32) := Int.ediv_nonneg hx0.1 (by omega)
    have hd1 : l[i / 32] / 2 ^ (i % 32) ≤ l[i / 32] := Int.ediv_le_self _ hx0.1
    rw [hs, and1 _ hd0 (by omega), hpow, ← Int.ediv_ediv_of_nonneg (by have := pow_pos (i / 32); omega), valL_drop l h1 _ (by omega), List.drop_eq_getElem_cons hq, valL, bit_limb _ _ _ (by omega)]

theorem good_short {a b : List Int} {u v : Int} (ha : Good a u) (hb : Good b v) (h : u < v) : a.length ≤ b.length := by
  obtain ⟨a1, a2, rfl⟩ := ha
  obtain ⟨b1, b2, rfl⟩ := hb
  rcases Nat.lt_or_ge b.length a.length with h1 | h1
  · have := valL_shorter b1 a1 a2 h1
    omega
  · exact h1
theorem or_bit (x : Int) (r : Nat) (hr : r < 32) (h0 : 0 ≤ x) (h1 : x ≤ 4294967295) (hz : x % 2 ^ (r + 1) = 0) : Go.bits .or .u32 x (2 ^ r) = x + 2 ^ r ∧ x + 2 ^ r ≤ 4294967295 := by
  have hp := p2_pos r
  have hl := pow2_lt r hr
  have e1 : (2 : Int) ^ (r + 1) = 2 ^ r * 2 := Int.pow_succ ..
  have hm : x = 2 ^ (r + 1) * (x / 2 ^ (r + 1)) := by
    have := Int.mul_ediv_add_emod x (2 ^ (r + 1))
    omega
  have h32 : (4294967296 : Int) = 2 ^ (r + 1) * 2 ^ (31 - r) := by
    rw [← Int.pow_add, show r + 1 + (31 - r) = 32 by omega]
    rfl
  have hx : x ≤ 4294967296 - 2 ^ (r + 1) := by
    have h3 : 2 ^ (r + 1) * (x / 2 ^ (r + 1)) < 2 ^ (r + 1) * 2 ^ (31 - r) := by rw [← hm, ← h32]; omega
    have h4 := Int.lt_of_mul_lt_mul_left h3 (by omega)
    have h5 : 2 ^ (r + 1) * (x / 2 ^ (r + 1) + 1) ≤ 2 ^ (r + 1) * 2 ^ (31 - r) := Int.mul_le_mul_of_nonneg_left (by omega) (by omega)
    rw [Int.mul_add, Int.mul_one, ← hm, ← h32] at h5
    omega
  refine ⟨?_, by omega⟩
  exact bits_join .u32 32 (by decide) u32_in (r + 1) x (2 ^ r) h0 hz (by omega) (by omega) (by omega) (by omega)

theorem half_div (A : Int) (i : Nat) : A / 2 ^ i = 2 * (A / 2 ^ (i + 1)) + (A / 2 ^ i) % 2 := by
  have hp := p2_pos i
  rw [Int.pow_succ, ← Int.ediv_ediv_of_nonneg (by omega)]
  omega
/-- The place j of a list: from its value. -/
theorem limb_of (l : List Int) (h : okL l) (j : Nat) (hj : j < l.length) : l[j] = (valL l / 4294967296 ^ j) % 4294967296 := by
  rw [valL_drop l h j (by omega), List.drop_eq_getElem_cons hj, valL]
  have := h.get j hj
  omega
theorem dvd_limb (Q' : Int) (i : Nat) : ((2 ^ (i + 1) * Q') / 4294967296 ^ (i / 32)) % 4294967296 % 2 ^ (i % 32 + 1) = 0 := by
  have hp := pow_pos (i / 32)
  have h1 : (2 : Int) ^ (i + 1) = 4294967296 ^ (i / 32) * 2 ^ (i % 32 + 1) := by
    rw [big_pow, ← Int.pow_add]
    congr 1
    omega
  have h32 : (4294967296 : Int) = 2 ^ (i % 32 + 1) * 2 ^ (31 - i % 32) := by
    rw [← Int.pow_add, show i % 32 + 1 + (31 - i % 32) = 32 by omega]
    rfl
  rw [h1, Int.mul_assoc, Int.mul_ediv_cancel_left _ (by omega)]
  have h2 : (2 ^ (i % 32 + 1) * Q') % 4294967296 = 2 ^ (i % 32 + 1) * (Q' % 2 ^ (31 - i % 32)) := by
    conv => lhs; rw [h32]
    exact Int.mul_emod_mul_of_pos _ _ (p2_pos _)
  rw [h2]
  exact Int.mul_emod_right _ _
theorem div_loop (a b : List Int) (A D : Int) (ha : Good a A) (hb : Good b D) (hD : 0 < D) (hx : a.length ≤ 5000) (hy : b.length ≤ 5000) (n : Nat) : ∀ (k : Nat) (q r : List Int) (Q' R : Int), n ≤ 32 * a.length → q.length = a.length → okL q → valL q = 2 ^ n * Q' → Good r R → 0 ≤ R → R < D → A / 2 ^ n = Q' * D + R → 500000 + 2 * n ≤ k →
    ∃ s t, spec_l1DivMag.l0 k a b q r ((n : Int) - 1) = some (s, t) ∧ Good s (A / D) ∧ Good t (A % D) ∧ s.length ≤ a.length ∧ t.length ≤ b.length := by
  induction n with
  | zero =>
    intro k q r Q' R hn hl ho hv hr h0 h1 hA hk
    obtain ⟨k, rfl⟩ : ∃ m, k = m + 1 := ⟨k - 1, by omega⟩
    rw [spec_l1DivMag.l0, if_neg (by omega)]
    obtain ⟨s, e1, e2, e3⟩ := trim_some q (by omega) ho k (by omega)
    rw [e1, Option.bind_some]
    have h2 : A = Q' * D + R := by
      rw [← hA]
      simp
    have h3 : A / D = Q' ∧ A % D = R := by
      rw [h2]
      refine ⟨?_, ?_⟩
      · rw [Int.add_comm, Int.add_mul_ediv_right _ _ (by omega), Int.ediv_eq_zero_of_lt h0 h1, Int.zero_add]
      · rw [Int.add_comm, Int.add_mul_emod_self_right, Int.emod_eq_of_lt h0 h1]
    refine ⟨s, r, rfl, ?_, ?_, by omega, good_short hr hb h1⟩
    · rw [h3.1]
      rw [hv] at e2
      simpa using e2
    · rw [h3.2]
      exact hr
  | succ n ih =>
    intro k q r Q' R hn hl ho hv hr h0 h1 hA hk
    obtain ⟨k, rfl⟩ : ∃ m, k = m + 2 := ⟨k - 2, by omega⟩
    have hrl := good_short hr hb h1
    rw [show k + 2 = (k + 1) + 1 from rfl, spec_l1DivMag.l0, show (((n + 1 : Nat) : Int) - 1) = (n : Int) by omega, if_pos (by omega)]
    obtain ⟨r1, e1, e2, e3⟩ := shl_some r R 1 hr (by omega) (by omega) (k + 1) (by omega)
    have e1 : spec_l1ShlMag.f (k + 1) r 1 = some r1 := e1
    rw [e1, Option.bind_some, bitMag_some a A ha (by omega) n (by omega), Option.bind_some]
    have hb0 : 0 ≤ (A / 2 ^ n) % 2 ∧ (A / 2 ^ n) % 2 ≤ 1 := by omega
    have hAn := half_div A n
    rw [hA] at hAn
    have e2 : Good r1 (2 * R) := by
      have h : R * 2 ^ 1 = 2 * R := by omega
      rw [h] at e2
      exact e2
    have step : ∀ (r2 : List Int), Good r2 (2 * R + (A / 2 ^ n) % 2) → r2.length ≤ b.length + 3 → ∃ s t, spec_l1DivMag.j1 (k + 1) a b q r2 (n : Int) = some (s, t) ∧ Good s (A / D) ∧ Good t (A % D) ∧ s.length ≤ a.length ∧ t.length ≤ b.length := by
      intro r2 g2 l2
      obtain ⟨c, f1, f2⟩ := cmp_some r2 b _ D (by omega) (by omega) g2 hb k (by omega)
      rw [spec_l1DivMag.j1, f1, Option.bind_some]
      generalize hbit : (A / 2 ^ n) % 2 = bit at *
      by_cases hc : c ≥ 0
      · rw [if_pos hc]
        obtain ⟨r3, g1, g3, g4⟩ := sub_some r2 b _ D g2 hb (by omega) (by omega) k (by omega)
        rw [g1, Option.bind_some]
        have t1 : Int.tdiv (n : Int) 32 = ((n / 32 : Nat) : Int) := by rw [Int.tdiv_eq_ediv_of_nonneg (by omega)]; omega
        have t2 : Int.tmod (n : Int) 32 = ((n % 32 : Nat) : Int) := by rw [Int.tmod_eq_emod_of_nonneg (by omega)]; omega
        have hj : n / 32 < q.length := by omega
        rw [t1, t2, wrap_in ((n / 32 : Nat) : Int) (by omega) (by omega), if_pos (by omega), if_pos (by omega), u64_in ((n % 32 : Nat) : Int) (by omega) (by omega), if_pos (by omega), rdI q _ hj, shl32 _ (by omega) (by omega), Int.toNat_natCast, Int.toNat_natCast, wrap_in ((n : Int) - 1) (by omega) (by omega)]
        have hlim := ho.get _ hj
        have hz : q[n / 32] % 2 ^ (n % 32 + 1) = 0 := by
          rw [limb_of q ho _ hj, hv]
          exact dvd_limb Q' n
        obtain ⟨o1, o2⟩ := or_bit q[n / 32] (n % 32) (by omega) hlim.1 hlim.2 hz
        have hpr := p2_pos (n % 32)
        rw [o1]
        refine ih k _ r3 (2 * Q' + 1) (2 * R + bit - D) (by omega) (by rw [List.length_set, hl]) (ho.set _ _ (by omega) o2) ?_ g3 (by omega) (by omega) ?_ (by omega)
        · rw [valL_set q _ _ hj, hv, show q[n / 32] + 2 ^ (n % 32) - q[n / 32] = 2 ^ (n % 32) by omega, pow_split, Int.pow_succ, Int.mul_add, Int.mul_one, Int.mul_assoc]
        · rw [hAn, Int.add_mul, Int.one_mul, Int.mul_assoc]
          generalize Q' * D = m
          omega
      · rw [if_neg hc, wrap_in ((n : Int) - 1) (by omega) (by omega)]
        refine ih k q r2 (2 * Q') (2 * R + bit) (by omega) hl ho ?_ g2 (by omega) (by omega) ?_ (by omega)
        · rw [hv, Int.pow_succ, Int.mul_assoc]
        · rw [hAn, Int.mul_assoc]
          generalize Q' * D = m
          omega
    by_cases hbit : (A / 2 ^ n) % 2 = 1
    · rw [if_pos hbit]
      have g1 : Good [(1 : Int)] 1 := ⟨fun x hx => by rw [List.mem_singleton.1 hx]; decide, fun x hx => by simp at hx; omega, rfl⟩
      obtain ⟨r2, f1, f2, f3⟩ := add_some r1 [1] _ 1 e2 g1 (by omega) (by simp) (k + 1) (by omega)
      rw [f1, Option.bind_some]
      exact step r2 (by rw [hbit]; exact f2) (by simp at f3; omega)
    · rw [if_neg hbit]
      have hb1 : (A / 2 ^ n) % 2 = 0 := by omega
      exact step r1 (by rw [hb1, Int.add_zero]; exact e2) (by omega)
theorem div_some (a b : List Int) (A D : Int) (ha : Good a A) (hb : Good b D) (hD : 0 < D) (hx : a.length ≤ 5000) (hy : b.length ≤ 5000) (k : Nat) (hk : 1000000 ≤ k) :
    ∃ s t, spec_l1DivMag.f k a b = some (s, t) ∧ Good s (A / D) ∧ Good t (A % D) ∧ s.length ≤ a.length ∧ t.length ≤ b.length := by
  obtain ⟨n, e1, e2, e3⟩ := bitsMag_some a A ha (by omega) k (by omega)
  have hA0 : 0 ≤ A := by
    obtain ⟨h1, _, h2⟩ := ha
    rw [← h2]
    exact valL_nonneg h1
  unfold spec_l1DivMag.f
  rw [if_pos (by omega), Int.toNat_natCast, if_pos (by omega), e1, Option.bind_some, wrap_in ((n : Int) - 1) (by omega) (by omega)]
  exact div_loop a b A D ha hb hD hx hy n k _ [] 0 0 e3 (by rw [List.length_replicate]) (okL_zeros _) (by rw [valL_zeros, Int.mul_zero]) good_nil (Int.le_refl _) hD (by rw [Int.zero_mul, Int.zero_add]; exact Int.ediv_eq_zero_of_lt hA0 (isBits_lt e2)) (by omega)

end Go.Proofs.Ytghjbadanhplnaa.PF
