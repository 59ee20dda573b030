/- x -> (5x + 1) mod 2^m goes through all numbers below 2^m. Plain arithmetic; no condition. -/
import Derived.Test.YtohilfkdfcihgaaGFind
import Derived.Test.YtohilfkdfcihgaaGDictOk
import Derived.Test.YtohilfkdfcihgaaPDix2
import Derived.Test.YtohilfkdfcihgaaPDix3
import Derived.Test.YtohilfkdfcihgaaPDix4
import Derived.Test.YtohilfkdfcihgaaPDix5
set_option linter.unusedVariables false
set_option linter.unusedSimpArgs false
namespace Go.Proofs.Ytohilfkdfcihgaa.Cyc

/-- The steps, not reduced: G i x = 5^i x + s i. -/
def G : Nat → Nat → Nat
  | 0, x => x
  | i + 1, x => 5 * G i x + 1

theorem G_add (i j x : Nat) : G (i + j) x = G i (G j x) := by
  induction i with
  | zero => simp [G]
  | succ i ih => rw [Nat.succ_add]; simp only [G]; rw [ih]

theorem G_lin (i x : Nat) : 4 * G i x + 1 = 5 ^ i * (4 * x + 1) := by
  induction i with
  | zero => simp [G]
  | succ i ih =>
    simp only [G]
    rw [Nat.pow_succ, show 4 * (5 * G i x + 1) + 1 = 5 * (4 * G i x + 1) by omega, ih, Nat.mul_comm (5 ^ i) 5, Nat.mul_assoc]

theorem pow_form (m : Nat) : ∃ o, 5 ^ (2 ^ m) = 1 + 2 ^ (m + 2) * (2 * o + 1) := by
  induction m with
  | zero => exact ⟨0, by decide⟩
  | succ m ih =>
    obtain ⟨o, ho⟩ := ih
    refine ⟨o + 2 ^ m * ((2 * o + 1) * (2 * o + 1)), ?_⟩
    have e : 5 ^ 2 ^ (m + 1) = 5 ^ 2 ^ m * 5 ^ 2 ^ m := by rw [← Nat.pow_add]; congr 1; rw [Nat.pow_succ]; omega
    rw [e, ho]
    generalize hq : 2 * o + 1 = q
    have h2 : 2 ^ (m + 1 + 2) = 2 * 2 ^ (m + 2) := by rw [show m + 1 + 2 = (m + 2) + 1 by omega, Nat.pow_succ]; omega
    have h3 : 2 ^ (m + 2) = 4 * 2 ^ m := by rw [Nat.pow_add]; omega
    rw [h2, h3]
    generalize 2 ^ m = p
    have h4 : 2 * (o + p * (q * q)) + 1 = q + 2 * (p * (q * q)) := by omega
    rw [h4]
    have e1 : (1 + 4 * p * q) * (1 + 4 * p * q) = 1 + (2 * (4 * p * q) + (4 * p * q) * (4 * p * q)) := by
      rw [Nat.add_mul, Nat.one_mul, Nat.mul_add, Nat.mul_one]; omega
    have e2 : 2 * (4 * p) * (q + 2 * (p * (q * q))) = 2 * (4 * p * q) + (4 * p * q) * (4 * p * q) := by
      rw [Nat.mul_add]
      congr 1
      · rw [Nat.mul_assoc]
      · have : (4 * p * q) * (4 * p * q) = 16 * (p * (p * (q * q))) := by
          rw [Nat.mul_assoc 4 p q, show 4 * (p * q) * (4 * (p * q)) = 16 * ((p * q) * (p * q)) by rw [Nat.mul_mul_mul_comm]]
          congr 1
          rw [Nat.mul_mul_mul_comm]
          simp only [Nat.mul_assoc]
        rw [this, show 2 * (4 * p) * (2 * (p * (q * q))) = 16 * (p * (p * (q * q))) by
          rw [show 2 * (4 * p) = 8 * p by omega, Nat.mul_mul_mul_comm]]
    rw [e1, e2]

/-- 2^m steps change just the bit m. -/
theorem G_half (m x : Nat) : ∃ z, G (2 ^ m) x = x + 2 ^ m + 2 ^ (m + 1) * z := by
  obtain ⟨o, ho⟩ := pow_form m
  have h := G_lin (2 ^ m) x
  rw [ho] at h
  have h3 : 2 ^ (m + 2) = 4 * 2 ^ m := by rw [Nat.pow_add]; omega
  have h2 : 2 ^ (m + 1) = 2 * 2 ^ m := by rw [Nat.pow_succ]; omega
  rw [h3] at h
  rw [h2]
  generalize 2 ^ m = p at *
  refine ⟨o + 2 * ((2 * o + 1) * x), ?_⟩
  have e : (1 + 4 * p * (2 * o + 1)) * (4 * x + 1) = 4 * x + 1 + (4 * (p * (2 * o + 1)) + 16 * (p * ((2 * o + 1) * x))) := by
    rw [Nat.add_mul, Nat.one_mul, Nat.mul_assoc 4 p]
    generalize 2 * o + 1 = q
    congr 1
    rw [Nat.mul_add, Nat.mul_one, Nat.add_comm]
    congr 1
    rw [Nat.mul_mul_mul_comm, Nat.mul_assoc p q x]
  rw [e] at h
  have e2 : 2 * p * (o + 2 * ((2 * o + 1) * x)) = 2 * (p * o) + 4 * (p * ((2 * o + 1) * x)) := by
    rw [Nat.mul_add, Nat.mul_assoc]
    congr 1
    rw [Nat.mul_mul_mul_comm]
  rw [e2]
  have e3 : p * (2 * o + 1) = 2 * (p * o) + p := by
    rw [Nat.mul_add, Nat.mul_one, ← Nat.mul_assoc, Nat.mul_comm p 2, Nat.mul_assoc]
  rw [e3] at h
  omega

theorem cover (m : Nat) : ∀ x y, ∃ i, i < 2 ^ m ∧ G i x % 2 ^ m = y % 2 ^ m := by
  induction m with
  | zero => intro x y; exact ⟨0, by decide, by simp [Nat.mod_one]⟩
  | succ m ih =>
    intro x y
    obtain ⟨i, hi, h⟩ := ih x y
    have h2 : 2 ^ (m + 1) = 2 * 2 ^ m := by rw [Nat.pow_succ]; omega
    have hp : 0 < 2 ^ m := Nat.pos_of_ne_zero (by simp)
    by_cases hc : G i x % 2 ^ (m + 1) = y % 2 ^ (m + 1)
    · exact ⟨i, by omega, hc⟩
    · refine ⟨2 ^ m + i, by omega, ?_⟩
      rw [G_add]
      obtain ⟨z, hz⟩ := G_half m (G i x)
      rw [hz, Nat.add_mul_mod_self_left]
      rw [h2] at hc ⊢
      generalize 2 ^ m = p at *
      generalize G i x = a at *
      have ha := Nat.div_add_mod a (2 * p)
      have hy := Nat.div_add_mod y (2 * p)
      have ha2 := Nat.mod_lt a (show 0 < 2 * p by omega)
      have hy2 := Nat.mod_lt y (show 0 < 2 * p by omega)
      have ea : a % p = a % (2 * p) % p := (Nat.mod_mul_left_mod a 2 p).symm
      have ey : y % p = y % (2 * p) % p := (Nat.mod_mul_left_mod y 2 p).symm
      rw [ea, ey] at h
      have eap : (a + p) % (2 * p) = (a % (2 * p) + p) % (2 * p) := (Nat.mod_add_mod a (2 * p) p).symm
      rw [eap]
      generalize a % (2 * p) = u at *
      generalize y % (2 * p) = v at *
      have hu : u % p = if u < p then u else u - p := by
        split
        · exact Nat.mod_eq_of_lt (by assumption)
        · rw [Nat.mod_eq_sub_mod (by omega)]; exact Nat.mod_eq_of_lt (by omega)
      have hv : v % p = if v < p then v else v - p := by
        split
        · exact Nat.mod_eq_of_lt (by assumption)
        · rw [Nat.mod_eq_sub_mod (by omega)]; exact Nat.mod_eq_of_lt (by omega)
      rw [hu, hv] at h
      by_cases h5 : u < p
      · rw [if_pos h5] at h
        rw [Nat.mod_eq_of_lt (by omega)]
        split at h <;> omega
      · rw [if_neg h5] at h
        rw [Nat.mod_eq_sub_mod (by omega), Nat.mod_eq_of_lt (by omega)]
        split at h <;> omega

end Go.Proofs.Ytohilfkdfcihgaa.Cyc


set_option linter.unusedVariables false
set_option linter.unusedSimpArgs false
namespace Go.Proofs.Ytohilfkdfcihgaa.DictT
open Go.RowKit Go.Proofs.Ytohilfkdfcihgaa.PDi Go.Proofs.YtohilfkdfcihgaaW.PrintWords Go.Proofs.YtohilfkdfcihgaaW.PrintLast Go.Proofs.YtohilfkdfcihgaaW.PrintMore

/-- The slots of a hash, one after the other. -/
def path (h n : Int) : Nat → Int
  | 0 => h % n
  | j + 1 => nxt h n (path h n j) (5 * ((j : Int) + 1))

theorem path_range (h n : Int) (hn : 0 < n) : ∀ j, 0 ≤ path h n j ∧ path h n j < n
  | 0 => ⟨Int.emod_nonneg _ (by omega), Int.emod_lt_of_pos _ hn⟩
  | j + 1 => ⟨Int.emod_nonneg _ (by omega), Int.emod_lt_of_pos _ hn⟩

theorem gone_zero (h k : Int) (h0 : 0 ≤ h) (h1 : h ≤ 18446744073709551615) (hk : 64 ≤ k) : gone h k = 0 := by
  unfold gone
  rw [Nat.min_eq_right (by omega)]
  exact Int.ediv_eq_zero_of_lt h0 (by
    have : (2 : Int) ^ 64 = 18446744073709551616 := by decide
    omega)

theorem path_G (h : Int) (m : Nat) (h0 : 0 ≤ h) (h1 : h ≤ 18446744073709551615) (i : Nat) : (path h ((2 ^ m : Nat) : Int) (12 + i)).toNat = Cyc.G i (path h ((2 ^ m : Nat) : Int) 12).toNat % 2 ^ m := by
  have hp : 0 < 2 ^ m := Nat.pos_of_ne_zero (by simp)
  induction i with
  | zero =>
    have := path_range h ((2 ^ m : Nat) : Int) (by omega) 12
    simp only [Cyc.G, Nat.add_zero]
    rw [Nat.mod_eq_of_lt (by omega)]
  | succ i ih =>
    have hr := path_range h ((2 ^ m : Nat) : Int) (by omega) (12 + i)
    show (nxt h _ (path h _ (12 + i)) (5 * (((12 + i : Nat) : Int) + 1))).toNat = _
    unfold nxt
    rw [gone_zero h _ h0 h1 (by omega), Int.add_zero]
    simp only [Cyc.G]
    generalize path h ((2 ^ m : Nat) : Int) (12 + i) = s at *
    obtain ⟨u, rfl⟩ := Int.eq_ofNat_of_zero_le hr.1
    rw [Int.toNat_natCast] at ih
    have e : (5 * (u : Int) + 1) % ((2 ^ m : Nat) : Int) = (((5 * u + 1) % 2 ^ m : Nat) : Int) := by push_cast; rfl
    rw [e, Int.toNat_natCast, ih]
    rw [Nat.add_mod, Nat.mul_mod, Nat.mod_mod, ← Nat.mul_mod, ← Nat.add_mod]

/-- Every slot is among the first 12 + n. -/
theorem path_cover (h : Int) (m : Nat) (h0 : 0 ≤ h) (h1 : h ≤ 18446744073709551615) (s : Int) (hs0 : 0 ≤ s) (hs1 : s < ((2 ^ m : Nat) : Int)) : ∃ j, j < 12 + 2 ^ m ∧ path h ((2 ^ m : Nat) : Int) j = s := by
  obtain ⟨i, hi, hc⟩ := Cyc.cover m (path h ((2 ^ m : Nat) : Int) 12).toNat s.toNat
  refine ⟨12 + i, by omega, ?_⟩
  have hr := path_range h ((2 ^ m : Nat) : Int) (by omega) (12 + i)
  have := path_G h m h0 h1 i
  rw [hc, Nat.mod_eq_of_lt (by omega)] at this
  omega

theorem least {P : Nat → Prop} (h : ∃ j, P j) : ∃ j, P j ∧ ∀ i, i < j → ¬ P i := by
  obtain ⟨j, hj⟩ := h
  induction j using Nat.strongRecOn with
  | _ j ih =>
    by_cases hc : ∃ i, i < j ∧ P i
    · obtain ⟨i, hi, hp⟩ := hc
      exact ih i hi hp
    · exact ⟨j, hj, fun i hi hp => hc ⟨i, hi, hp⟩⟩

theorem probe_lay (place h n : Int) (T : List Int) (J : Nat) (hJ : rd T (path h n J) < 0) (d : Nat) : ∀ (f j : Nat), j + d = J → d < f → (∀ i, j ≤ i → i < J → 0 ≤ rd T (path h n i)) →
    probe (layStep place) h n f T (path h n j) (5 * ((j : Int) + 1)) = some (T.set (path h n J).toNat place) := by
  induction d with
  | zero =>
    intro f j h1 h2 h3
    obtain ⟨f, rfl⟩ : ∃ m, f = m + 1 := ⟨f - 1, by omega⟩
    obtain rfl : j = J := by omega
    have e : layStep place T (path h n j) = (T.set (path h n j).toNat place, false) := by unfold layStep; rw [if_neg (by omega)]
    simp only [probe, e]
    simp
  | succ d ih =>
    intro f j h1 h2 h3
    obtain ⟨f, rfl⟩ : ∃ m, f = m + 1 := ⟨f - 1, by omega⟩
    have e : layStep place T (path h n j) = (T, true) := by unfold layStep; rw [if_pos (h3 j (by omega) (by omega))]
    simp only [probe, e, if_true]
    have := ih f (j + 1) (by omega) (by omega) (fun i hi => h3 i (by omega))
    have e2 : (5 * ((j : Int) + 1) + 5) = 5 * (((j + 1 : Nat) : Int) + 1) := by omega
    rw [e2]
    exact this

/-- Does a slot end the search? -/
def Stop (T : List Int) (E : List S62) (hash key : Int) (s : Int) : Prop := rd T s < 0 ∨ ((rd_T62 E (rd T s)).f3 = false ∧ (rd_T62 E (rd T s)).f0 = hash ∧ (rd_T62 E (rd T s)).f1 = key)

theorem probe_find (hash key n : Int) (T : List Int) (E : List S62) (J : Nat) (hJ : Stop T E hash key (path hash n J)) (d : Nat) : ∀ (f j : Nat) (lk : Int), j + d = J → d < f → (∀ i, j ≤ i → i < J → ¬ Stop T E hash key (path hash n i)) →
    probe (findStep T E hash key) hash n f (-1, lk) (path hash n j) (5 * ((j : Int) + 1)) = some (if rd T (path hash n J) < 0 then -1 else rd T (path hash n J), lk + d + 1) := by
  induction d with
  | zero =>
    intro f j lk h1 h2 h3
    obtain ⟨f, rfl⟩ : ∃ m, f = m + 1 := ⟨f - 1, by omega⟩
    obtain rfl : j = J := by omega
    have e : findStep T E hash key (-1, lk) (path hash n j) = ((if rd T (path hash n j) < 0 then -1 else rd T (path hash n j), lk + 1), false) := by
      unfold findStep
      by_cases h0 : rd T (path hash n j) < 0
      · rw [if_pos h0, if_pos h0]
      · rw [if_neg h0, if_neg h0]
        rcases hJ with hJ | hJ
        · exact absurd hJ h0
        · rw [if_pos hJ]
    simp only [probe, e]
    simp
  | succ d ih =>
    intro f j lk h1 h2 h3
    obtain ⟨f, rfl⟩ : ∃ m, f = m + 1 := ⟨f - 1, by omega⟩
    have hns := h3 j (by omega) (by omega)
    have e : findStep T E hash key (-1, lk) (path hash n j) = ((-1, lk + 1), true) := by
      unfold findStep
      rw [if_neg (fun h => hns (Or.inl h)), if_neg (fun h => hns (Or.inr h))]
    simp only [probe, e, if_true]
    have := ih f (j + 1) (lk + 1) (by omega) (by omega) (fun i hi => h3 i (by omega))
    have e2 : (5 * ((j : Int) + 1) + 5) = 5 * (((j + 1 : Nat) : Int) + 1) := by omega
    rw [e2]
    have e3 : lk + 1 + (d : Int) + 1 = lk + ((d + 1 : Nat) : Int) + 1 := by omega
    rw [← e3]
    exact this

theorem u64_in (x : Int) (h0 : 0 ≤ x) (h1 : x ≤ 18446744073709551615) : IntKind.u64.wrap x = x := by
  have : IntKind.u64.wrap x = x % 18446744073709551616 := rfl
  rw [this]
  omega
theorem wrap_in (i : Int) (h0 : -9223372036854775808 ≤ i) (h1 : i ≤ 9223372036854775807) : wrap64 i = i := by
  unfold wrap64
  omega

/-- The reference's step is the same. -/
theorem spec_next (h n s : Int) (k : Nat) (h0 : 0 ≤ h) (h1 : h ≤ 18446744073709551615) (hn0 : 0 < n) (hn1 : n ≤ 1000000) (hs0 : 0 ≤ s) (hs1 : s < n) (hk0 : 1 ≤ k) (hk1 : k ≤ 2000000) : spec_l7Next.f s h k n = some (nxt h n s (5 * (k : Int))) := by
  unfold spec_l7Next.f nxt
  have hw : wrap64 (5 * (k : Int)) = 5 * k := wrap_in _ (by omega) (by omega)
  have hu : IntKind.u64.wrap (5 * (k : Int)) = 5 * k := u64_in _ (by omega) (by omega)
  have h5 : IntKind.u64.wrap (5 * s) = 5 * s := u64_in _ (by omega) (by omega)
  have h6 : IntKind.u64.wrap (5 * s + 1) = 5 * s + 1 := u64_in _ (by omega) (by omega)
  have hg := gone_range h (5 * k) h0 h1 (by omega)
  rw [hw, hu, h5, h6, if_neg (show ¬ n = 0 by omega), if_neg (show ¬ n = 0 by omega)]
  by_cases hc : 5 * (k : Int) < 64
  · rw [if_pos hc, if_pos (by omega)]
    have e : shr .u64 h (5 * k) = gone h (5 * k) := rfl
    rw [e, u64_in _ (by omega) (by omega), Int.tmod_eq_emod_of_nonneg (by omega)]
  · rw [if_neg hc, gone_zero h _ h0 h1 (by omega), Int.add_zero, u64_in _ (by omega) (by omega), Int.tmod_eq_emod_of_nonneg (by omega)]

theorem spec_find_loop (hash key n live : Int) (T : List Int) (E : List S62) (h0 : 0 ≤ hash) (h1 : hash ≤ 18446744073709551615) (hn0 : 0 < n) (hn1 : n ≤ 1000000) (hT : (T.length : Int) = n) (hin : ∀ x ∈ T, x < E.length) (J : Nat) (hJ1 : J ≤ 1900000) (hJ : Stop T E hash key (path hash n J)) (d : Nat) :
    ∀ (k j : Nat), j + d = J → d < k → (∀ i, j ≤ i → i < J → ¬ Stop T E hash key (path hash n i)) →
    spec_l7Find.l0 k hash key n (path hash n j) ((j : Int) + 1) ((j : Int) + 1) T E live = some (if rd T (path hash n J) < 0 then -1 else rd T (path hash n J), (J : Int) + 1) := by
  induction d with
  | zero =>
    intro k j g1 g2 g3
    obtain ⟨k, rfl⟩ : ∃ m, k = m + 1 := ⟨k - 1, by omega⟩
    obtain rfl : j = J := by omega
    have hr := path_range hash n hn0 j
    simp only [spec_l7Find.l0]
    rw [if_pos hr.1, if_pos (by omega)]
    generalize path hash n j = s at *
    by_cases hneg : rd T s < 0
    · rw [if_neg (by omega), if_pos hneg]
    · have hp : rd T s < E.length := hin _ (by
        unfold rd
        rw [List.getD_eq_getElem?_getD, List.getElem?_eq_getElem (show s.toNat < T.length by omega)]
        exact List.getElem_mem _)
      rw [if_pos (by omega), if_pos (by omega), if_pos hp, if_neg hneg]
      rcases hJ with hJ | ⟨e1, e2, e3⟩
      · exact absurd hJ hneg
      · rw [if_neg (by rw [e1]; simp), if_pos e2, if_pos e3]
  | succ d ih =>
    intro k j g1 g2 g3
    obtain ⟨k, rfl⟩ : ∃ m, k = m + 1 := ⟨k - 1, by omega⟩
    have hr := path_range hash n hn0 j
    have hns := g3 j (by omega) (by omega)
    have hnext := spec_next hash n (path hash n j) (j + 1) h0 h1 hn0 hn1 hr.1 hr.2 (by omega) (by omega)
    have hih := ih k (j + 1) (by omega) (by omega) (fun i hi => g3 i (by omega))
    have w1 : wrap64 ((j : Int) + 1 + 1) = (((j + 1 : Nat) : Int) + 1) := by rw [wrap_in _ (by omega) (by omega)]; omega
    have e2 : nxt hash n (path hash n j) (5 * ((j + 1 : Nat) : Int)) = path hash n (j + 1) := by
      show _ = nxt hash n (path hash n j) (5 * ((j : Int) + 1))
      congr 2
    rw [e2] at hnext
    have hnext' : spec_l7Next.f (path hash n j) hash ((j : Int) + 1) n = some (path hash n (j + 1)) := by
      rw [← hnext]
      congr 1
    simp only [spec_l7Find.l0]
    rw [if_pos hr.1, if_pos (by omega)]
    have hneg : ¬ rd T (path hash n j) < 0 := fun h => hns (Or.inl h)
    have hno : ¬ ((rd_T62 E (rd T (path hash n j))).f3 = false ∧ (rd_T62 E (rd T (path hash n j))).f0 = hash ∧ (rd_T62 E (rd T (path hash n j))).f1 = key) := fun h => hns (Or.inr h)
    have hp : rd T (path hash n j) < E.length := hin _ (by
      unfold rd
      rw [List.getD_eq_getElem?_getD, List.getElem?_eq_getElem (show (path hash n j).toNat < T.length by omega)]
      exact List.getElem_mem _)
    rw [if_pos (by omega), if_pos (by omega), if_pos hp, hnext', w1]
    simp only [Option.bind_some]
    rw [hih]
    by_cases t3 : (rd_T62 E (rd T (path hash n j))).f3 = true
    · rw [if_pos t3]
    · rw [if_neg t3]
      by_cases t0 : (rd_T62 E (rd T (path hash n j))).f0 = hash
      · rw [if_pos t0]
        by_cases t1 : (rd_T62 E (rd T (path hash n j))).f1 = key
        · exact absurd ⟨by simpa using t3, t0, t1⟩ hno
        · rw [if_neg t1]
      · rw [if_neg t0]

end Go.Proofs.Ytohilfkdfcihgaa.DictT


set_option linter.unusedVariables false
set_option linter.unusedSimpArgs false
namespace Go.Proofs.Ytohilfkdfcihgaa.DictT
open Go.RowKit Go.Proofs.Ytohilfkdfcihgaa.PDi Go.Proofs.YtohilfkdfcihgaaW.PrintWords Go.Proofs.YtohilfkdfcihgaaW.PrintLast Go.Proofs.YtohilfkdfcihgaaW.PrintMore

/-! ### The sizes -/
theorem size_of_pow : ∀ m, m < 17 → 3 ≤ m → sizeOk ((2 ^ m : Nat) : Int) = true := by decide +kernel

theorem i64_in (x : Int) (h0 : 0 ≤ x) (h1 : x ≤ 65536) : IntKind.i64.wrap x = x := by
  have e : IntKind.i64.wrap x = if (true && decide (x % 18446744073709551616 ≥ 9223372036854775808)) = true then x % 18446744073709551616 - 18446744073709551616 else x % 18446744073709551616 := rfl
  rw [e, Int.emod_eq_of_lt h0 (by omega), if_neg (by simp; omega)]

theorem pow_of_size (n : Nat) (h : sizeOk (n : Int) = true) : ∃ m, 3 ≤ m ∧ m ≤ 16 ∧ n = 2 ^ m := by
  unfold sizeOk at h
  simp only [Bool.and_eq_true, decide_eq_true_eq, beq_iff_eq] at h
  obtain ⟨⟨h8, h6⟩, hb⟩ := h
  have hz : n &&& (n - 1) = 0 := by
    have e : Go.bits .and .i64 (n : Int) ((n : Int) - 1) = IntKind.i64.wrap (((BitVec.ofInt 64 (n : Int)) &&& (BitVec.ofInt 64 ((n : Int) - 1))).toNat : Int) := rfl
    have e1 : (BitVec.ofInt 64 (n : Int)).toNat = n := by
      rw [BitVec.toNat_ofInt]
      omega
    have e2 : (BitVec.ofInt 64 ((n : Int) - 1)).toNat = n - 1 := by
      rw [BitVec.toNat_ofInt]
      omega
    rw [e, BitVec.toNat_and, e1, e2] at hb
    have hle : n &&& (n - 1) ≤ n := Nat.and_le_left
    rw [i64_in _ (by omega) (by omega)] at hb
    omega
  obtain ⟨m, rfl⟩ := (Nat.and_sub_one_eq_zero_iff_isPowerOfTwo (by omega)).1 hz
  refine ⟨m, ?_, ?_, rfl⟩
  · by_cases hm : 3 ≤ m
    · exact hm
    · have := Nat.pow_le_pow_right (show 0 < 2 by omega) (show m ≤ 2 by omega)
      omega
  · by_cases hm : m ≤ 16
    · exact hm
    · have := Nat.pow_le_pow_right (show 0 < 2 by omega) (show 17 ≤ m by omega)
      omega

theorem spec_size_loop (n : Nat) (d : Nat) : ∀ (k j : Nat), j + d = 17 → 3 ≤ j → d < k → (∀ m, 3 ≤ m → m < j → n ≠ 2 ^ m) → spec_l7Size.l0 k (n : Int) ((2 ^ j : Nat) : Int) = some (sizeOk (n : Int)) := by
  induction d with
  | zero =>
    intro k j h1 h3 h2 hno
    obtain ⟨k, rfl⟩ : ∃ m, k = m + 1 := ⟨k - 1, by omega⟩
    obtain rfl : j = 17 := by omega
    simp only [spec_l7Size.l0]
    rw [if_neg (by decide)]
    cases hs : sizeOk (n : Int) with
    | false => rfl
    | true =>
      obtain ⟨m, m3, m16, e⟩ := pow_of_size n hs
      exact absurd e (hno m m3 (by omega))
  | succ d ih =>
    intro k j h1 h3 h2 hno
    obtain ⟨k, rfl⟩ : ∃ m, k = m + 1 := ⟨k - 1, by omega⟩
    have hle := Nat.pow_le_pow_right (show 0 < 2 by omega) (show j ≤ 16 by omega)
    simp only [spec_l7Size.l0]
    rw [if_pos (by generalize 2 ^ j = p at *; omega)]
    by_cases hc : (((2 ^ j : Nat) : Int)) = (n : Int)
    · rw [if_pos hc, ← hc, size_of_pow j (by omega) h3]
    · rw [if_neg hc]
      have e : wrap64 (((2 ^ j : Nat) : Int) * 2) = ((2 ^ (j + 1) : Nat) : Int) := by
        rw [Nat.pow_succ]
        generalize 2 ^ j = p at *
        rw [wrap_in _ (by omega) (by omega)]
        omega
      rw [e]
      refine ih k (j + 1) (by omega) (by omega) (by omega) (fun m m3 mj => ?_)
      by_cases hm : m = j
      · subst hm
        intro e
        exact hc (by rw [e])
      · exact hno m m3 (by omega)

theorem spec_size (n k : Nat) (hk : 20 ≤ k) : spec_l7Size.f k (n : Int) = some (sizeOk (n : Int)) :=
  spec_size_loop n 14 k 3 (by omega) (by omega) (by omega) (fun m h3 h => absurd h (by omega))

/-! ### The table of the entries -/
def lay1 (n : Nat) (T : List Int) (i h : Int) : Option (List Int) := probe (layStep i) h n 1000000 T (h % n) 5
def tab (n : Nat) : List S62 → Int → List Int → Option (List Int)
  | [], _, T => some T
  | e :: rest, i, T => (lay1 n T i e.f0).bind fun T' => tab n rest (i + 1) T'

def full (x : Int) : Bool := decide (0 ≤ x)

/-- A table of the first i entries. -/
structure Inv (n : Nat) (E : List S62) (i : Nat) (T : List Int) : Prop where
  len : T.length = n
  hi : ∀ x ∈ T, -1 ≤ x ∧ x < i
  cnt : T.countP full ≤ i
  at_ : ∀ j : Nat, j < i → ∃ J, J < 12 + n ∧ rd T (path (rd_T62 E j).f0 n J) = j ∧ ∀ J', J' < J → 0 ≤ rd T (path (rd_T62 E j).f0 n J') ∧ rd T (path (rd_T62 E j).f0 n J') < j

theorem rd_mem (T : List Int) (s : Int) (h0 : 0 ≤ s) (h1 : s < T.length) : rd T s ∈ T := by
  unfold rd
  rw [List.getD_eq_getElem?_getD, List.getElem?_eq_getElem (show s.toNat < T.length by omega)]
  exact List.getElem_mem _

theorem rd_set (T : List Int) (a b v : Int) (ha : 0 ≤ a) (ha1 : a < T.length) (hb : 0 ≤ b) : rd (T.set a.toNat v) b = if a = b then v else rd T b := by
  unfold rd
  rw [List.getD_eq_getElem?_getD, List.getElem?_set]
  by_cases h : a = b
  · subst h
    rw [if_pos rfl, if_pos (by omega), if_pos rfl]
    rfl
  · rw [if_neg (by omega), if_neg h, List.getD_eq_getElem?_getD]

/-- While entries are missing, there is a free slot on every walk. -/
theorem free_slot (m n : Nat) (hn : n = 2 ^ m) (T : List Int) (hl : T.length = n) (hc : T.countP full < n) (h : Int) (h0 : 0 ≤ h) (h1 : h ≤ 18446744073709551615) :
    ∃ J, J < 12 + n ∧ rd T (path h n J) < 0 := by
  have : ∃ x ∈ T, ¬ full x = true := by
    refine Classical.byContradiction fun hno => ?_
    have : T.countP full = T.length := List.countP_eq_length.2 (fun x hx => Classical.byContradiction fun h => hno ⟨x, hx, h⟩)
    omega
  obtain ⟨x, hx, hx0⟩ := this
  obtain ⟨s, hs, rfl⟩ := List.getElem_of_mem hx
  obtain ⟨J, hJ, e⟩ := path_cover h m h0 h1 (s : Int) (by omega) (by omega)
  rw [← hn] at hJ e
  refine ⟨J, hJ, ?_⟩
  rw [e]
  unfold rd
  rw [List.getD_eq_getElem?_getD, Int.toNat_natCast, List.getElem?_eq_getElem hs]
  unfold full at hx0
  simpa using hx0

theorem lay_ok (m n : Nat) (hn : n = 2 ^ m) (hn6 : n ≤ 65536) (E : List S62) (hE : E.length < n) (hH : ∀ e ∈ E, 0 ≤ e.f0 ∧ e.f0 ≤ 18446744073709551615) (i : Nat) (hi : i < E.length) (T : List Int) (hI : Inv n E i T) :
    ∃ J, J < 12 + n ∧ rd T (path (rd_T62 E i).f0 n J) < 0 ∧ (∀ J', J' < J → 0 ≤ rd T (path (rd_T62 E i).f0 n J')) ∧
      lay1 n T i (rd_T62 E i).f0 = some (T.set (path (rd_T62 E i).f0 n J).toNat i) ∧ Inv n E (i + 1) (T.set (path (rd_T62 E i).f0 n J).toNat i) := by
  have he : rd_T62 E i ∈ E := by
    unfold rd_T62
    rw [List.getD_eq_getElem?_getD, Int.toNat_natCast, List.getElem?_eq_getElem hi]
    exact List.getElem_mem _
  obtain ⟨g0, g1⟩ := hH _ he
  generalize hh : (rd_T62 E i).f0 = h at *
  obtain ⟨J0, hJ0, hf0⟩ := free_slot m n hn T hI.len (by have := hI.cnt; omega) h g0 g1
  obtain ⟨J, hf, hmin⟩ := least (P := fun J => rd T (path h n J) < 0) ⟨J0, hf0⟩
  have hJ : J < 12 + n := by
    by_cases hc : J0 < J
    · exact absurd hf0 (hmin J0 hc)
    · omega
  have hmin' : ∀ J', J' < J → 0 ≤ rd T (path h n J') := fun J' hj => by have := hmin J' hj; omega
  have hp := path_range h n (by omega) J
  refine ⟨J, hJ, hf, hmin', ?_, ?_⟩
  · exact probe_lay i h n T J hf J 1000000 0 (by omega) (by omega) (fun J' _ hj => hmin' J' hj)
  · have hpl : (path h n J).toNat < T.length := by rw [hI.len]; omega
    refine ⟨by rw [List.length_set]; exact hI.len, ?_, ?_, ?_⟩
    · intro x hx
      rcases List.mem_or_eq_of_mem_set hx with hx | rfl
      · have := hI.hi x hx
        omega
      · omega
    · rw [List.countP_set hpl]
      have := hI.cnt
      split <;> split <;> omega
    · intro j hj
      by_cases hji : j = i
      · subst hji
        rw [hh]
        refine ⟨J, hJ, ?_, ?_⟩
        · rw [rd_set _ _ _ _ hp.1 (by rw [hI.len]; exact hp.2) hp.1, if_pos rfl]
        · intro J' hj'
          have hr := path_range h n (by omega) J'
          have h1 := hmin' J' hj'
          rw [rd_set _ _ _ _ hp.1 (by rw [hI.len]; exact hp.2) hr.1, if_neg (by intro e; rw [e] at hf; omega)]
          exact ⟨h1, (hI.hi _ (rd_mem T _ hr.1 (by rw [hI.len]; exact hr.2))).2⟩
      · obtain ⟨K, hK, hKe, hKm⟩ := hI.at_ j (by omega)
        generalize (rd_T62 E j).f0 = h' at *
        refine ⟨K, hK, ?_, ?_⟩
        · have hr := path_range h' n (by omega) K
          rw [rd_set _ _ _ _ hp.1 (by rw [hI.len]; exact hp.2) hr.1, if_neg (by intro e; rw [e] at hf; omega)]
          exact hKe
        · intro K' hk'
          have hr := path_range h' n (by omega) K'
          have h1 := hKm K' hk'
          rw [rd_set _ _ _ _ hp.1 (by rw [hI.len]; exact hp.2) hr.1, if_neg (by intro e; rw [e] at hf; omega)]
          exact h1

theorem drop_at (E : List S62) (i : Nat) (hi : i < E.length) : E.drop i = rd_T62 E i :: E.drop (i + 1) := by
  rw [List.drop_eq_getElem_cons hi]
  congr 1
  unfold rd_T62
  rw [List.getD_eq_getElem?_getD, Int.toNat_natCast, List.getElem?_eq_getElem hi]
  rfl

theorem tab_ok (m n : Nat) (hn : n = 2 ^ m) (hn6 : n ≤ 65536) (E : List S62) (hE : E.length < n) (hH : ∀ e ∈ E, 0 ≤ e.f0 ∧ e.f0 ≤ 18446744073709551615) (d : Nat) : ∀ (i : Nat), i + d = E.length → ∀ (T : List Int), Inv n E i T →
    ∃ T', tab n (E.drop i) i T = some T' ∧ Inv n E E.length T' := by
  induction d with
  | zero =>
    intro i h T hI
    obtain rfl : i = E.length := by omega
    exact ⟨T, by rw [List.drop_length]; rfl, hI⟩
  | succ d ih =>
    intro i h T hI
    obtain ⟨J, hJ, _, _, hl, hI'⟩ := lay_ok m n hn hn6 E hE hH i (by omega) T hI
    obtain ⟨T', hT', hI''⟩ := ih (i + 1) (by omega) _ hI'
    refine ⟨T', ?_, hI''⟩
    rw [drop_at E i (by omega)]
    simp only [tab]
    rw [hl]
    exact hT'

theorem inv_zero (n : Nat) (E : List S62) : Inv n E 0 (List.replicate n (-1)) := by
  refine ⟨by simp, fun x hx => ?_, ?_, fun j hj => absurd hj (by omega)⟩
  · have := List.eq_of_mem_replicate hx
    omega
  · rw [List.countP_replicate]
    simp [full]

end Go.Proofs.Ytohilfkdfcihgaa.DictT


set_option linter.unusedVariables false
set_option linter.unusedSimpArgs false
namespace Go.Proofs.Ytohilfkdfcihgaa.DictT
open Go.RowKit Go.Proofs.Ytohilfkdfcihgaa.PDi Go.Proofs.YtohilfkdfcihgaaW.PrintWords Go.Proofs.YtohilfkdfcihgaaW.PrintLast Go.Proofs.YtohilfkdfcihgaaW.PrintMore

/-! ### The search -/
theorem inv_in {n : Nat} {E : List S62} {T : List Int} (hI : Inv n E E.length T) : ∀ x ∈ T, x < E.length := fun x hx => (hI.hi x hx).2

theorem find_stop (m n : Nat) (hn : n = 2 ^ m) (E : List S62) (hE : E.length < n) (T : List Int) (hI : Inv n E E.length T) (hash key : Int) (h0 : 0 ≤ hash) (h1 : hash ≤ 18446744073709551615) :
    ∃ J, J < 12 + n ∧ Stop T E hash key (path hash n J) ∧ ∀ i, i < J → ¬ Stop T E hash key (path hash n i) := by
  obtain ⟨J0, hJ0, hf0⟩ := free_slot m n hn T hI.len (by have := hI.cnt; omega) hash h0 h1
  obtain ⟨J, hf, hmin⟩ := least (P := fun J => Stop T E hash key (path hash n J)) ⟨J0, Or.inl hf0⟩
  refine ⟨J, ?_, hf, hmin⟩
  by_cases hc : J0 < J
  · exact absurd (Or.inl hf0) (hmin J0 hc)
  · omega

/-- What a search comes to. -/
theorem find_both (m n : Nat) (hn : n = 2 ^ m) (hn6 : n ≤ 65536) (E : List S62) (hE : E.length < n) (T : List Int) (hI : Inv n E E.length T) (live hash key : Int) (h0 : 0 ≤ hash) (h1 : hash ≤ 18446744073709551615) :
    ∃ J, J < 12 + n ∧ Stop T E hash key (path hash n J) ∧ (∀ i, i < J → ¬ Stop T E hash key (path hash n i)) ∧
      impl_yfind.f T E live hash key = some (if rd T (path hash n J) < 0 then -1 else rd T (path hash n J), (J : Int) + 1) ∧
      ∀ k, 100000 ≤ k → spec_l7Find.f k T E live hash key = some (if rd T (path hash n J) < 0 then -1 else rd T (path hash n J), (J : Int) + 1) := by
  have hn0 : 0 < n := by rw [hn]; exact Nat.pos_of_ne_zero (by simp)
  obtain ⟨J, hJ, hs, hmin⟩ := find_stop m n hn E hE T hI hash key h0 h1
  refine ⟨J, hJ, hs, hmin, ?_, ?_⟩
  · unfold impl_yfind.f
    rw [if_pos ⟨by rw [hI.len]; omega, by rw [hI.len]; omega, h0, h1, inv_in hI⟩, hI.len]
    have := probe_find hash key n T E J hs J 1000000 0 0 (by omega) (by omega) (fun i _ hi => hmin i hi)
    rw [Int.zero_add] at this
    exact this
  · intro k hk
    unfold spec_l7Find.f
    have hl : IntKind.u64.wrap (T.length : Int) = n := by rw [hI.len]; exact u64_in _ (by omega) (by omega)
    rw [hl, if_neg (by omega), Int.tmod_eq_emod_of_nonneg h0]
    have := spec_find_loop hash key n live T E h0 h1 (by omega) (by omega) (by rw [hI.len]) (inv_in hI) J (by omega) hs J k 0 (by omega) (by omega) (fun i _ hi => hmin i hi)
    exact this

/-- A search for an entry's own hash and key: finds it exactly if no entry before it that is alive has them. -/
theorem find_own (m n : Nat) (hn : n = 2 ^ m) (E : List S62) (hE : E.length < n) (hH : ∀ e ∈ E, 0 ≤ e.f0 ∧ e.f0 ≤ 18446744073709551615) (T : List Int) (hI : Inv n E E.length T) (j : Nat) (hj : j < E.length) (hlive : (rd_T62 E j).f3 = false) (J : Nat)
    (hs : Stop T E (rd_T62 E j).f0 (rd_T62 E j).f1 (path (rd_T62 E j).f0 n J)) (hmin : ∀ i, i < J → ¬ Stop T E (rd_T62 E j).f0 (rd_T62 E j).f1 (path (rd_T62 E j).f0 n i)) :
    (if rd T (path (rd_T62 E j).f0 n J) < 0 then -1 else rd T (path (rd_T62 E j).f0 n J)) = (j : Int) ↔ ∀ i : Nat, i < j → ¬ ((rd_T62 E i).f3 = false ∧ (rd_T62 E i).f0 = (rd_T62 E j).f0 ∧ (rd_T62 E i).f1 = (rd_T62 E j).f1) := by
  obtain ⟨K, hK, hKe, hKm⟩ := hI.at_ j hj
  have hKs : Stop T E (rd_T62 E j).f0 (rd_T62 E j).f1 (path (rd_T62 E j).f0 n K) := Or.inr (by rw [hKe]; exact ⟨hlive, rfl, rfl⟩)
  have hJK : J ≤ K := by
    by_cases hc : K < J
    · exact absurd hKs (hmin K hc)
    · omega
  constructor
  · intro he i hi ⟨d3, d0, d1⟩
    obtain ⟨L, hL, hLe, hLm⟩ := hI.at_ i (by omega)
    rw [d0] at hLe hLm
    have hLs : Stop T E (rd_T62 E j).f0 (rd_T62 E j).f1 (path (rd_T62 E j).f0 n L) := Or.inr (by rw [hLe]; exact ⟨d3, d0, d1⟩)
    have hJL : J ≤ L := by
      by_cases hc : L < J
      · exact absurd hLs (hmin L hc)
      · omega
    by_cases hJL' : J = L
    · subst hJL'
      rw [hLe, if_neg (by omega)] at he
      omega
    · have := hLm J (by omega)
      rw [if_neg (by omega)] at he
      omega
  · intro hno
    by_cases hJK' : J = K
    · subst hJK'
      rw [hKe, if_neg (by omega)]
    · have hb := hKm J (by omega)
      rcases hs with hs | hs
      · omega
      · exfalso
        have := hno (rd T (path (rd_T62 E j).f0 n J)).toNat (by omega)
        rw [Int.toNat_of_nonneg hb.1] at this
        exact this hs

/-! ### The reference's table -/
theorem spec_fill (E : List S62) (n : Nat) (hn : n ≤ 65536) (d : Nat) : ∀ (k i : Nat) (x : List Int), n = i + d → x.length = n → x.take i = List.replicate i (-1) →
    spec_l7Table.l0 (k + d + 1) E n x i = spec_l7Table.l1 k E n (List.replicate n (-1)) 0 := by
  induction d with
  | zero =>
    intro k i x h1 h2 h3
    simp only [spec_l7Table.l0]
    rw [if_neg (by omega)]
    have : x = List.replicate n (-1) := by
      rw [List.take_of_length_le (by omega)] at h3
      rw [h3]
      have : i = n := by omega
      rw [this]
    rw [this]
  | succ d ih =>
    intro k i x h1 h2 h3
    have e : k + (d + 1) + 1 = (k + d + 1) + 1 := by omega
    rw [e]
    have := ih k (i + 1) (x.set i (-1)) (by omega) (by simpa using h2) (by rw [dk_take_set (by omega), h3, List.replicate_succ'])
    generalize k + d + 1 = q at *
    simp only [spec_l7Table.l0]
    rw [if_pos (by omega), if_pos (by omega), if_pos (by omega), wrap_in _ (by omega) (by omega)]
    rw [Int.toNat_natCast]
    exact this

theorem spec_table_l2 (m n : Nat) (hn : n = 2 ^ m) (hn6 : n ≤ 65536) (E : List S62) (hH : ∀ e ∈ E, 0 ≤ e.f0 ∧ e.f0 ≤ 18446744073709551615) (i : Nat) (hi : i < E.length) (hE : E.length < n) (T : List Int) (hl : T.length = n) (J : Nat) (hJ : J < 12 + n)
    (hf : rd T (path (rd_T62 E i).f0 n J) < 0) (hmin : ∀ J', J' < J → 0 ≤ rd T (path (rd_T62 E i).f0 n J')) (d : Nat) : ∀ (k j : Nat), j + d = J →
    spec_l7Table.l2 (k + d + 1) E n T i (path (rd_T62 E i).f0 n j) ((j : Int) + 1) = spec_l7Table.l1 k E n (T.set (path (rd_T62 E i).f0 n J).toNat i) ((i : Int) + 1) := by
  have he : rd_T62 E i ∈ E := by
    unfold rd_T62
    rw [List.getD_eq_getElem?_getD, Int.toNat_natCast, List.getElem?_eq_getElem hi]
    exact List.getElem_mem _
  obtain ⟨g0, g1⟩ := hH _ he
  induction d with
  | zero =>
    intro k j h1
    obtain rfl : j = J := by omega
    have hr := path_range (rd_T62 E i).f0 n (by omega) j
    simp only [spec_l7Table.l2]
    rw [if_pos hr.1, if_pos (by omega), if_neg (by omega), wrap_in _ (by omega) (by omega)]
  | succ d ih =>
    intro k j h1
    have hr := path_range (rd_T62 E i).f0 n (by omega) j
    have hm := hmin j (by omega)
    have e : k + (d + 1) + 1 = (k + d + 1) + 1 := by omega
    rw [e]
    have hnext := spec_next (rd_T62 E i).f0 n (path (rd_T62 E i).f0 n j) (j + 1) g0 g1 (by omega) (by omega) hr.1 hr.2 (by omega) (by omega)
    have e2 : nxt (rd_T62 E i).f0 n (path (rd_T62 E i).f0 n j) (5 * ((j + 1 : Nat) : Int)) = path (rd_T62 E i).f0 n (j + 1) := by
      show _ = nxt (rd_T62 E i).f0 n (path (rd_T62 E i).f0 n j) (5 * ((j : Int) + 1))
      congr 2
    rw [e2] at hnext
    have hnext' : spec_l7Next.f (path (rd_T62 E i).f0 n j) (rd_T62 E i).f0 ((j : Int) + 1) n = some (path (rd_T62 E i).f0 n (j + 1)) := by
      rw [← hnext]
      congr 1
    have := ih k (j + 1) (by omega)
    generalize k + d + 1 = q at *
    simp only [spec_l7Table.l2]
    rw [if_pos hr.1, if_pos (by omega), if_pos hm, if_pos (by omega), if_pos (by omega), u64_in n (by omega) (by omega), hnext', wrap_in ((j : Int) + 1 + 1) (by omega) (by omega)]
    have e3 : (j : Int) + 1 + 1 = ((j + 1 : Nat) : Int) + 1 := by omega
    rw [e3]
    exact this

theorem spec_table_l1 (m n : Nat) (hn : n = 2 ^ m) (hn6 : n ≤ 65536) (E : List S62) (hE : E.length < n) (hH : ∀ e ∈ E, 0 ≤ e.f0 ∧ e.f0 ≤ 18446744073709551615) (d : Nat) : ∀ (i : Nat), i + d = E.length → ∀ (k : Nat) (T : List Int), Inv n E i T → 70000 * d < k →
    spec_l7Table.l1 k E n T i = tab n (E.drop i) i T := by
  induction d with
  | zero =>
    intro i h k T hI hk
    obtain ⟨k, rfl⟩ : ∃ m, k = m + 1 := ⟨k - 1, by omega⟩
    obtain rfl : i = E.length := by omega
    simp only [spec_l7Table.l1]
    rw [if_neg (by omega), List.drop_length]
    rfl
  | succ d ih =>
    intro i h k T hI hk
    obtain ⟨J, hJ, hf, hmin, hl, hI'⟩ := lay_ok m n hn hn6 E hE hH i (by omega) T hI
    obtain ⟨k, rfl⟩ : ∃ q, k = (q + J + 1) + 1 := ⟨k - J - 2, by omega⟩
    have he : rd_T62 E i ∈ E := by
      unfold rd_T62
      rw [List.getD_eq_getElem?_getD, Int.toNat_natCast, List.getElem?_eq_getElem (show i < E.length by omega)]
      exact List.getElem_mem _
    simp only [spec_l7Table.l1]
    rw [if_pos (by omega), if_pos (by omega), u64_in n (by omega) (by omega), if_neg (by omega), Int.tmod_eq_emod_of_nonneg (hH _ he).1]
    have h2 := spec_table_l2 m n hn hn6 E hH i (by omega) hE T hI.len J hJ hf hmin J k 0 (by omega)
    have e1 : (((0 : Nat) : Int) + 1) = 1 := rfl
    rw [e1] at h2
    have e2 : path (rd_T62 E i).f0 n 0 = (rd_T62 E i).f0 % (n : Int) := rfl
    rw [e2] at h2
    rw [h2, drop_at E i (by omega)]
    simp only [tab]
    rw [hl]
    exact ih (i + 1) (by omega) k _ hI' (by omega)

theorem spec_table (m n : Nat) (hn : n = 2 ^ m) (hn6 : n ≤ 65536) (E : List S62) (hE : E.length < n) (hH : ∀ e ∈ E, 0 ≤ e.f0 ∧ e.f0 ≤ 18446744073709551615) (k : Nat) (hk : 5000000000 ≤ k) :
    spec_l7Table.f k E n = tab n E 0 (List.replicate n (-1)) := by
  obtain ⟨k, rfl⟩ : ∃ q, k = q + n + 1 := ⟨k - n - 1, by omega⟩
  unfold spec_l7Table.f
  rw [if_pos (by omega), if_pos (by omega), Int.toNat_natCast]
  have h1 := spec_fill E n hn6 n k 0 (List.replicate n 0) (by omega) (by simp) (by simp)
  have h2 := spec_table_l1 m n hn hn6 E hE hH E.length 0 (by omega) k _ (inv_zero n E) (by omega)
  rw [List.drop_zero] at h2
  exact h1.trans h2

end Go.Proofs.Ytohilfkdfcihgaa.DictT


set_option linter.unusedVariables false
set_option linter.unusedSimpArgs false
namespace Go.Proofs.Ytohilfkdfcihgaa.DictT
open Go.RowKit Go.Proofs.Ytohilfkdfcihgaa.PDi Go.Proofs.YtohilfkdfcihgaaW.PrintWords Go.Proofs.YtohilfkdfcihgaaW.PrintLast Go.Proofs.YtohilfkdfcihgaaW.PrintMore

def gzB : List S62 → Bool
  | [] => true
  | e :: r => (!e.f3 || (e.f1 == 0 && e.f2 == 0)) && gzB r
def cntI : List S62 → Int
  | [] => 0
  | e :: r => (if e.f3 = true then 0 else 1) + cntI r
def ndB : List S62 → List (Int × Int) → Bool
  | [], _ => true
  | e :: r, S => if e.f3 = true then ndB r S else (!decide ((e.f0, e.f1) ∈ S)) && ndB r (S ++ [(e.f0, e.f1)])

theorem cntI_range : ∀ E, 0 ≤ cntI E ∧ cntI E ≤ E.length
  | [] => by simp [cntI]
  | e :: r => by
    have := cntI_range r
    simp only [cntI, List.length_cons]
    split <;> omega

theorem okLoop_eq (T : List Int) (live : Int) (X : List Int) : ∀ (E : List S62) (i : Int) (slots : List Int) (lv : Int) (S : List (Int × Int)), tab T.length E i slots = some X →
    okLoop T live E i slots lv S = some (gzB E && ndB E S && decide (X = T) && (lv + cntI E == live)) := by
  intro E
  induction E with
  | nil =>
    intro i slots lv S h
    simp only [tab, Option.some.injEq] at h
    subst h
    simp [okLoop, gzB, ndB, cntI]
  | cons e r ih =>
    intro i slots lv S h
    simp only [tab, lay1] at h
    obtain ⟨s', hs', h'⟩ := Option.bind_eq_some_iff.1 h
    simp only [okLoop]
    rw [hs']
    simp only [Option.bind_some]
    cases h3 : e.f3 with
    | true =>
      rw [if_pos rfl]
      by_cases hz : e.f1 = 0 ∧ e.f2 = 0
      · rw [if_pos hz, ih _ _ _ _ h']
        simp [gzB, ndB, cntI, h3, hz.1, hz.2]
      · rw [if_neg hz]
        have : (e.f1 == 0 && e.f2 == 0) = false := by simpa using hz
        simp [gzB, h3, this]
    | false =>
      rw [if_neg (by simp)]
      by_cases hd : (e.f0, e.f1) ∈ S
      · rw [if_pos hd]
        simp [ndB, h3, hd]
      · rw [if_neg hd, ih _ _ _ _ h']
        simp [gzB, ndB, cntI, h3, hd, Int.add_assoc]

/-- The live keys. -/
def livek : List S62 → List (Int × Int)
  | [] => []
  | e :: r => if e.f3 = true then livek r else (e.f0, e.f1) :: livek r

theorem livek_append : ∀ (A B : List S62), livek (A ++ B) = livek A ++ livek B
  | [], B => rfl
  | e :: r, B => by
    simp only [List.cons_append, livek]
    rw [livek_append r B]
    split <;> rfl

theorem take_at (E : List S62) (i : Nat) (hi : i < E.length) : E.take (i + 1) = E.take i ++ [rd_T62 E i] := by
  rw [List.take_succ_eq_append_getElem hi]
  congr 2
  unfold rd_T62
  rw [List.getD_eq_getElem?_getD, Int.toNat_natCast, List.getElem?_eq_getElem hi]
  rfl

theorem livek_mem (E : List S62) : ∀ (i : Nat), i ≤ E.length → ∀ (a b : Int), (a, b) ∈ livek (E.take i) ↔ ∃ j : Nat, j < i ∧ (rd_T62 E j).f3 = false ∧ (rd_T62 E j).f0 = a ∧ (rd_T62 E j).f1 = b
  | 0, _, a, b => by simp [livek]
  | i + 1, h, a, b => by
    rw [take_at E i (by omega), livek_append, List.mem_append, livek_mem E i (by omega) a b]
    have : ((a, b) ∈ livek [rd_T62 E i]) ↔ ((rd_T62 E i).f3 = false ∧ (rd_T62 E i).f0 = a ∧ (rd_T62 E i).f1 = b) := by
      simp only [livek]
      cases hc : (rd_T62 E i).f3 <;> simp [eq_comm]
    rw [this]
    constructor
    · rintro (⟨j, h1, h2⟩ | h2)
      · exact ⟨j, by omega, h2⟩
      · exact ⟨i, by omega, h2⟩
    · rintro ⟨j, h1, h2⟩
      by_cases hj : j = i
      · subst hj
        exact Or.inr h2
      · exact Or.inl ⟨j, by omega, h2⟩

theorem ok_l2 (m n : Nat) (hn : n = 2 ^ m) (hn6 : n ≤ 65536) (E : List S62) (hE : E.length < n) (hH : ∀ e ∈ E, 0 ≤ e.f0 ∧ e.f0 ≤ 18446744073709551615) (T : List Int) (hI : Inv n E E.length T) (live : Int) (d : Nat) : ∀ (k i : Nat), i + d = E.length → 100000 + d < k →
    spec_DictOk.l2 k i T E live = some (ndB (E.drop i) (livek (E.take i))) := by
  induction d with
  | zero =>
    intro k i h hk
    obtain ⟨k, rfl⟩ : ∃ q, k = q + 1 := ⟨k - 1, by omega⟩
    obtain rfl : i = E.length := by omega
    simp only [spec_DictOk.l2]
    rw [if_neg (by omega), List.drop_length]
    rfl
  | succ d ih =>
    intro k i h hk
    obtain ⟨k, rfl⟩ : ∃ q, k = q + 1 := ⟨k - 1, by omega⟩
    have he : rd_T62 E i ∈ E := by
      unfold rd_T62
      rw [List.getD_eq_getElem?_getD, Int.toNat_natCast, List.getElem?_eq_getElem (show i < E.length by omega)]
      exact List.getElem_mem _
    obtain ⟨g0, g1⟩ := hH _ he
    have hih := ih k (i + 1) (by omega) (by omega)
    rw [take_at E i (by omega), livek_append] at hih
    have ei : wrap64 ((i : Int) + 1) = ((i + 1 : Nat) : Int) := by rw [wrap_in _ (by omega) (by omega)]; rfl
    simp only [spec_DictOk.l2]
    rw [if_pos (by omega), if_pos (by omega), ei, hih, drop_at E i (by omega)]
    simp only [ndB]
    cases h3 : (rd_T62 E i).f3 with
    | true =>
      rw [if_pos rfl, if_pos rfl]
      simp [livek, h3]
    | false =>
      rw [if_neg (by simp), if_neg (by simp)]
      obtain ⟨J, hJ, hs, hmin, _, hf⟩ := find_both m n hn hn6 E hE T hI live (rd_T62 E i).f0 (rd_T62 E i).f1 g0 g1
      rw [hf k (by omega)]
      have ho := find_own m n hn E hE hH T hI i (by omega) h3 J hs hmin
      simp only [Option.bind_some]
      by_cases hd : ((rd_T62 E i).f0, (rd_T62 E i).f1) ∈ livek (E.take i)
      · rw [if_neg (fun hx => by
          obtain ⟨j, hj, hjj⟩ := (livek_mem E i (by omega) _ _).1 hd
          exact ho.1 hx j hj hjj)]
        simp [hd]
      · rw [if_pos (ho.2 (fun j hj hjj => hd ((livek_mem E i (by omega) _ _).2 ⟨j, hj, hjj⟩)))]
        simp [hd, livek, h3]

theorem ok_l1 (n : Nat) (hn6 : n ≤ 65536) (E : List S62) (T X : List Int) (hX : X.length = n) (hT : T.length = n) (live : Int) (d : Nat) : ∀ (k i : Nat), i + d = n → (X.take i = T.take i) →
    spec_DictOk.l1 (k + d + 1) n X i T E live = if X = T then spec_DictOk.l2 k 0 T E live else some false := by
  induction d with
  | zero =>
    intro k i h h2
    simp only [spec_DictOk.l1]
    rw [if_neg (by omega)]
    rw [List.take_of_length_le (by omega), List.take_of_length_le (by omega)] at h2
    rw [if_pos h2]
  | succ d ih =>
    intro k i h h2
    have e : k + (d + 1) + 1 = (k + d + 1) + 1 := by omega
    rw [e]
    have hih := ih k (i + 1) (by omega)
    generalize k + d + 1 = q at *
    have hx : rd X i = X[i]'(by omega) := by unfold rd; rw [List.getD_eq_getElem?_getD, Int.toNat_natCast, List.getElem?_eq_getElem (show i < X.length by omega)]; rfl
    have ht : rd T i = T[i]'(by omega) := by unfold rd; rw [List.getD_eq_getElem?_getD, Int.toNat_natCast, List.getElem?_eq_getElem (show i < T.length by omega)]; rfl
    simp only [spec_DictOk.l1]
    rw [if_pos (by omega), if_pos (by omega), if_pos (by omega), if_pos (by omega)]
    by_cases hc : rd X i = rd T i
    · rw [if_pos hc, wrap_in _ (by omega) (by omega)]
      exact hih (by
        rw [List.take_succ_eq_append_getElem (show i < X.length by omega), List.take_succ_eq_append_getElem (show i < T.length by omega), h2, ← hx, ← ht, hc])
    · rw [if_neg hc, if_neg (fun hx => hc (by rw [hx]))]

theorem ok_l0 (n : Nat) (E : List S62) (T : List Int) (live : Int) (hE : E.length ≤ 65536) (d : Nat) : ∀ (k i : Nat) (c : Int), i + d = E.length → 0 ≤ c → c ≤ i →
    spec_DictOk.l0 (k + d + 1) n c i T E live = if gzB (E.drop i) = true then (if c + cntI (E.drop i) = live then (spec_l7Table.f k E n).bind fun t => spec_DictOk.l1 k n t 0 T E live else some false) else some false := by
  induction d with
  | zero =>
    intro k i c h h0 h1
    obtain rfl : i = E.length := by omega
    simp only [spec_DictOk.l0]
    rw [if_neg (by omega), List.drop_length]
    simp [gzB, cntI]
  | succ d ih =>
    intro k i c h h0 h1
    have e : k + (d + 1) + 1 = (k + d + 1) + 1 := by omega
    rw [e]
    have hih0 := ih k (i + 1) c (by omega) (by omega) (by omega)
    have hih1 := ih k (i + 1) (c + 1) (by omega) (by omega) (by omega)
    generalize k + d + 1 = q at *
    have ei : wrap64 ((i : Int) + 1) = ((i + 1 : Nat) : Int) := by rw [wrap_in _ (by omega) (by omega)]; rfl
    simp only [spec_DictOk.l0]
    rw [if_pos (by omega), if_pos (by omega), ei, wrap_in (c + 1) (by omega) (by omega), hih0, hih1, drop_at E i (by omega)]
    have eg : gzB (rd_T62 E i :: E.drop (i + 1)) = ((!(rd_T62 E i).f3 || ((rd_T62 E i).f1 == 0 && (rd_T62 E i).f2 == 0)) && gzB (E.drop (i + 1))) := rfl
    have ec : cntI (rd_T62 E i :: E.drop (i + 1)) = (if (rd_T62 E i).f3 = true then 0 else 1) + cntI (E.drop (i + 1)) := rfl
    rw [eg, ec]
    by_cases h3 : (rd_T62 E i).f3 = true
    · rw [if_pos h3, if_pos h3]
      by_cases h1 : (rd_T62 E i).f1 = 0
      · rw [if_pos h1]
        by_cases h2 : (rd_T62 E i).f2 = 0
        · rw [if_pos h2]
          simp [h1, h2, h3]
        · rw [if_neg h2]
          simp [h1, h2, h3]
      · rw [if_neg h1]
        simp [h1, h3]
    · rw [if_neg h3, if_neg h3]
      simp [h3, Int.add_assoc]

/-- DictOk, the program's and the reference's. -/
theorem ok_both (T : List Int) (E : List S62) (live : Int) (hT : T.length < 1000000000000) (hE : E.length < 1000000000000) (hH : ∀ e ∈ E, 0 ≤ e.f0 ∧ e.f0 ≤ 18446744073709551615) :
    ∃ b, impl_DictOk.f T E live = some b ∧ (∀ k, 6000000000 ≤ k → spec_DictOk.f k T E live = some b) ∧
      (b = true → ∃ m, 3 ≤ m ∧ m ≤ 16 ∧ T.length = 2 ^ m ∧ (E.length : Int) ≤ 2 * T.length / 3 ∧ E.length < T.length ∧ T.length ≤ 65536 ∧ tab T.length E 0 (List.replicate T.length (-1)) = some T ∧ Inv T.length E E.length T ∧ gzB E = true ∧ ndB E [] = true ∧ cntI E = live) := by
  have hw1 : wrap64 ((T.length : Int) * 2) = (T.length : Int) * 2 := wrap_in _ (by omega) (by omega)
  have hw2 : wrap64 (Int.tdiv (wrap64 ((T.length : Int) * 2)) 3) = 2 * T.length / 3 := by
    rw [hw1, Int.tdiv_eq_ediv_of_nonneg (by omega), wrap_in _ (by omega) (by omega)]
    omega
  unfold impl_DictOk.f
  rw [if_pos ⟨hH, hT, hE⟩]
  by_cases hs : sizeOk (T.length : Int) = true
  · obtain ⟨m, m3, m16, hm⟩ := pow_of_size _ hs
    have hn6 : T.length ≤ 65536 := by
      rw [hm]
      exact Nat.pow_le_pow_right (show 0 < 2 by omega) (show m ≤ 16 by omega)
    have hn8 : 8 ≤ T.length := by
      rw [hm]
      exact Nat.pow_le_pow_right (show 0 < 2 by omega) (show 3 ≤ m by omega)
    by_cases hl : (E.length : Int) ≤ 2 * T.length / 3
    · rw [if_pos ⟨hs, hl⟩]
      have hEn : E.length < T.length := by omega
      obtain ⟨X, hX, hXI⟩ := tab_ok m T.length hm hn6 E hEn hH E.length 0 (by omega) _ (inv_zero _ E)
      rw [List.drop_zero] at hX
      refine ⟨_, okLoop_eq T live X E 0 _ 0 [] hX, ?_, ?_⟩
      · intro k hk
        unfold spec_DictOk.f
        rw [spec_size _ k (by omega), hs]
        simp only [Option.bind_some]
        rw [if_pos trivial, hw2]
        obtain ⟨k, rfl⟩ : ∃ q, k = (q + E.length + 1) + 1 := ⟨k - E.length - 2, by omega⟩
        simp only [spec_DictOk.j0]
        rw [if_neg (by rw [decide_eq_true_eq]; omega)]
        have h0 := ok_l0 T.length E T live (by omega) E.length k 0 0 (by omega) (by omega) (by omega)
        rw [List.drop_zero] at h0
        rw [show ((0 : Nat) : Int) = 0 from rfl] at h0
        rw [h0, spec_table m T.length hm hn6 E hEn hH k (by omega)]
        rw [show tab T.length E 0 (List.replicate T.length (-1)) = some X from hX]
        simp only [Option.bind_some]
        cases hg : gzB E with
        | false => rw [if_neg (by simp)]; simp
        | true =>
          rw [if_pos rfl]
          by_cases hc : 0 + cntI E = live
          · rw [if_pos hc]
            obtain ⟨k, rfl⟩ : ∃ q, k = q + T.length + 1 := ⟨k - T.length - 1, by omega⟩
            have h1 := ok_l1 T.length hn6 E T X hXI.len rfl live T.length k 0 (by omega) (by simp)
            rw [show ((0 : Nat) : Int) = 0 from rfl] at h1
            rw [h1]
            by_cases hXT : X = T
            · rw [if_pos hXT]
              have h2 := ok_l2 m T.length hm hn6 E hEn hH T (hXT ▸ hXI) live E.length k 0 (by omega) (by omega)
              rw [show ((0 : Nat) : Int) = 0 from rfl, List.drop_zero] at h2
              rw [h2]
              simp [livek, hXT, hc]
            · rw [if_neg hXT]
              simp [hXT]
          · rw [if_neg hc]
            have : (0 + cntI E == live) = false := by simpa using hc
            rw [this]
            simp
      · intro hb
        simp only [Bool.and_eq_true, decide_eq_true_eq, beq_iff_eq] at hb
        obtain ⟨⟨⟨b1, b2⟩, b3⟩, b4⟩ := hb
        exact ⟨m, m3, m16, hm, hl, hEn, hn6, b3 ▸ hX, b3 ▸ hXI, b1, b2, by omega⟩
    · rw [if_neg (fun h => hl h.2)]
      refine ⟨false, rfl, ?_, by simp⟩
      intro k hk
      unfold spec_DictOk.f
      rw [spec_size _ k (by omega), hs]
      simp only [Option.bind_some]
      rw [if_pos trivial, hw2]
      obtain ⟨k, rfl⟩ : ∃ q, k = q + 1 := ⟨k - 1, by omega⟩
      simp only [spec_DictOk.j0]
      rw [if_pos (by rw [decide_eq_true_eq]; omega)]
  · rw [if_neg (fun h => hs h.1)]
    refine ⟨false, rfl, ?_, by simp⟩
    intro k hk
    unfold spec_DictOk.f
    rw [spec_size _ k (by omega)]
    simp only [Option.bind_some]
    rw [if_neg (by simpa using hs)]
    obtain ⟨k, rfl⟩ : ∃ q, k = q + 1 := ⟨k - 1, by omega⟩
    simp only [spec_DictOk.j0]
    rw [if_pos trivial]

end Go.Proofs.Ytohilfkdfcihgaa.DictT

