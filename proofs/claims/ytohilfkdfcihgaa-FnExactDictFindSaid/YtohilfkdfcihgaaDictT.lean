/- The slots that a hash is looked for in: every slot is among them; what the program's and the reference's walks over them come to. Plain law; no condition beyond those of the theorems. -/
import Derived.Test.YtohilfkdfcihgaaCyc
import Derived.Test.YtohilfkdfcihgaaPDix2
import Derived.Test.YtohilfkdfcihgaaPDix3
set_option linter.unusedVariables false
set_option linter.unusedSimpArgs false
namespace Go.Proofs.Ytohilfkdfcihgaa.DictT
open Go.RowKit Go.Proofs.Ytohilfkdfcihgaa.PDi Go.Proofs.YtohilfkdfcihgaaW.PrintWords Go.Proofs.YtohilfkdfcihgaaW.PrintLast Go.Proofs.YtohilfkdfcihgaaW.PrintMore

/-- The slots of a hash, one after the other. -/
def path (h n : Int) : Nat → Int
  | 0 => h % n
  | j + 1 => nxt h n (path h n j) (5 * ((j : Int) + 1))

theorem path_range (h n : Int) (hn : 0 < n) : ∀ j, 0 ≤ path h n j ∧ path h n j < n
  | 0 => ⟨Int.emod_nonneg _ (by omega), Int.emod_lt_of_pos _ hn⟩
  | j + 1 => ⟨Int.emod_nonneg _ (by omega), Int.emod_lt_of_pos _ hn⟩

theorem gone_zero (h k : Int) (h0 : 0 ≤ h) (h1 : h ≤ 18446744073709551615) (hk : 64 ≤ k) : gone h k = 0 := by
  unfold gone
  rw [Nat.min_eq_right (by omega)]
  exact Int.ediv_eq_zero_of_lt h0 (by
    have : (2 : Int) ^ 64 = 18446744073709551616 := by decide
    omega)

theorem path_G (h : Int) (m : Nat) (h0 : 0 ≤ h) (h1 : h ≤ 18446744073709551615) (i : Nat) : (path h ((2 ^ m : Nat) : Int) (12 + i)).toNat = Cyc.G i (path h ((2 ^ m : Nat) : Int) 12).toNat % 2 ^ m := by
  have hp : 0 < 2 ^ m := Nat.pos_of_ne_zero (by simp)
  induction i with
  | zero =>
    have := path_range h ((2 ^ m : Nat) : Int) (by omega) 12
    simp only [Cyc.G, Nat.add_zero]
    rw [Nat.mod_eq_of_lt (by omega)]
  | succ i ih =>
    have hr := path_range h ((2 ^ m : Nat) : Int) (by omega) (12 + i)
    show (nxt h _ (path h _ (12 + i)) (5 * (((12 + i : Nat) : Int) + 1))).toNat = _
    unfold nxt
    rw [gone_zero h _ h0 h1 (by omega), Int.add_zero]
    simp only [Cyc.G]
    generalize path h ((2 ^ m : Nat) : Int) (12 + i) = s at *
    obtain ⟨u, rfl⟩ := Int.eq_ofNat_of_zero_le hr.1
    rw [Int.toNat_natCast] at ih
    have e : (5 * (u : Int) + 1) % ((2 ^ m : Nat) : Int) = (((5 * u + 1) % 2 ^ m : Nat) : Int) := by push_cast; rfl
    rw [e, Int.toNat_natCast, ih]
    rw [Nat.add_mod, Nat.mul_mod, Nat.mod_mod, ← Nat.mul_mod, ← Nat.add_mod]

/-- Every slot is among the first 12 + n. -/
theorem path_cover (h : Int) (m : Nat) (h0 : 0 ≤ h) (h1 : h ≤ 18446744073709551615) (s : Int) (hs0 : 0 ≤ s) (hs1 : s < ((2 ^ m : Nat) : Int)) : ∃ j, j < 12 + 2 ^ m ∧ path h ((2 ^ m : Nat) : Int) j = s := by
  obtain ⟨i, hi, hc⟩ := Cyc.cover m (path h ((2 ^ m : Nat) : Int) 12).toNat s.toNat
  refine ⟨12 + i, by omega, ?_⟩
  have hr := path_range h ((2 ^ m : Nat) : Int) (by omega) (12 + i)
  have := path_G h m h0 h1 i
  rw [hc, Nat.mod_eq_of_lt (by omega)] at this
  omega

theorem least {P : Nat → Prop} (h : ∃ j, P j) : ∃ j, P j ∧ ∀ i, i < j → ¬ P i := by
  obtain ⟨j, hj⟩ := h
  induction j using Nat.strongRecOn with
  | _ j ih =>
    by_cases hc : ∃ i, i < j ∧ P i
    · obtain ⟨i, hi, hp⟩ := hc
      exact ih i hi hp
    · exact ⟨j, hj, fun i hi hp => hc ⟨i, hi, hp⟩⟩

theorem probe_lay (place h n : Int) (T : List Int) (J : Nat) (hJ : rd T (path h n J) < 0) (d : Nat) : ∀ (f j : Nat), j + d = J → d < f → (∀ i, j ≤ i → i < J → 0 ≤ rd T (path h n i)) →
    probe (layStep place) h n f T (path h n j) (5 * ((j : Int) + 1)) = some (T.set (path h n J).toNat place) := by
  induction d with
  | zero =>
    intro f j h1 h2 h3
    obtain ⟨f, rfl⟩ : ∃ m, f = m + 1 := ⟨f - 1, by omega⟩
    obtain rfl : j = J := by omega
    have e : layStep place T (path h n j) = (T.set (path h n j).toNat place, false) := by unfold layStep; rw [if_neg (by omega)]
    simp only [probe, e]
    simp
  | succ d ih =>
    intro f j h1 h2 h3
    obtain ⟨f, rfl⟩ : ∃ m, f = m + 1 := ⟨f - 1, by omega⟩
    have e : layStep place T (path h n j) = (T, true) := by unfold layStep; rw [if_pos (h3 j (by omega) (by omega))]
    simp only [probe, e, if_true]
    have := ih f (j + 1) (by omega) (by omega) (fun i hi => h3 i (by omega))
    have e2 : (5 * ((j : Int) + 1) + 5) = 5 * (((j + 1 : Nat) : Int) + 1) := by omega
    rw [e2]
    exact this

/-- Does a slot end the search? -/
def Stop (T : List Int) (E : List S62) (hash key : Int) (s : Int) : Prop := rd T s < 0 ∨ ((rd_T62 E (rd T s)).f3 = false ∧ (rd_T62 E (rd T s)).f0 = hash ∧ (rd_T62 E (rd T s)).f1 = key)

theorem probe_find (hash key n : Int) (T : List Int) (E : List S62) (J : Nat) (hJ : Stop T E hash key (path hash n J)) (d : Nat) : ∀ (f j : Nat) (lk : Int), j + d = J → d < f → (∀ i, j ≤ i → i < J → ¬ Stop T E hash key (path hash n i)) →
    probe (findStep T E hash key) hash n f (-1, lk) (path hash n j) (5 * ((j : Int) + 1)) = some (if rd T (path hash n J) < 0 then -1 else rd T (path hash n J), lk + d + 1) := by
  induction d with
  | zero =>
    intro f j lk h1 h2 h3
    obtain ⟨f, rfl⟩ : ∃ m, f = m + 1 := ⟨f - 1, by omega⟩
    obtain rfl : j = J := by omega
    have e : findStep T E hash key (-1, lk) (path hash n j) = ((if rd T (path hash n j) < 0 then -1 else rd T (path hash n j), lk + 1), false) := by
      unfold findStep
      by_cases h0 : rd T (path hash n j) < 0
      · rw [if_pos h0, if_pos h0]
      · rw [if_neg h0, if_neg h0]
        rcases hJ with hJ | hJ
        · exact absurd hJ h0
        · rw [if_pos hJ]
    simp only [probe, e]
    simp
  | succ d ih =>
    intro f j lk h1 h2 h3
    obtain ⟨f, rfl⟩ : ∃ m, f = m + 1 := ⟨f - 1, by omega⟩
    have hns := h3 j (by omega) (by omega)
    have e : findStep T E hash key (-1, lk) (path hash n j) = ((-1, lk + 1), true) := by
      unfold findStep
      rw [if_neg (fun h => hns (Or.inl h)), if_neg (fun h => hns (Or.inr h))]
    simp only [probe, e, if_true]
    have := ih f (j + 1) (lk + 1) (by omega) (by omega) (fun i hi => h3 i (by omega))
    have e2 : (5 * ((j : Int) + 1) + 5) = 5 * (((j + 1 : Nat) : Int) + 1) := by omega
    rw [e2]
    have e3 : lk + 1 + (d : Int) + 1 = lk + ((d + 1 : Nat) : Int) + 1 := by omega
    rw [← e3]
    exact this

theorem u64_in (x : Int) (h0 : 0 ≤ x) (h1 : x ≤ 18446744073709551615) : IntKind.u64.wrap x = x := by
  have : IntKind.u64.wrap x = x % 18446744073709551616 := rfl
  rw [this]
  omega
theorem wrap_in (i : Int) (h0 : -9223372036854775808 ≤ i) (h1 : i ≤ 9223372036854775807) : wrap64 i = i := by
  unfold wrap64
  omega

/-- The reference's step is the same. -/
theorem spec_next (h n s : Int) (k : Nat) (h0 : 0 ≤ h) (h1 : h ≤ 18446744073709551615) (hn0 : 0 < n) (hn1 : n ≤ 1000000) (hs0 : 0 ≤ s) (hs1 : s < n) (hk0 : 1 ≤ k) (hk1 : k ≤ 2000000) : spec_l7Next.f s h k n = some (nxt h n s (5 * (k : Int))) := by
  unfold spec_l7Next.f nxt
  have hw : wrap64 (5 * (k : Int)) = 5 * k := wrap_in _ (by omega) (by omega)
  have hu : IntKind.u64.wrap (5 * (k : Int)) = 5 * k := u64_in _ (by omega) (by omega)
  have h5 : IntKind.u64.wrap (5 * s) = 5 * s := u64_in _ (by omega) (by omega)
  have h6 : IntKind.u64.wrap (5 * s + 1) = 5 * s + 1 := u64_in _ (by omega) (by omega)
  have hg := gone_range h (5 * k) h0 h1 (by omega)
  rw [hw, hu, h5, h6, if_neg (show ¬ n = 0 by omega), if_neg (show ¬ n = 0 by omega)]
  by_cases hc : 5 * (k : Int) < 64
  · rw [if_pos hc, if_pos (by omega)]
    have e : shr .u64 h (5 * k) = gone h (5 * k) := rfl
    rw [e, u64_in _ (by omega) (by omega), Int.tmod_eq_emod_of_nonneg (by omega)]
  · rw [if_neg hc, gone_zero h _ h0 h1 (by omega), Int.add_zero, u64_in _ (by omega) (by omega), Int.tmod_eq_emod_of_nonneg (by omega)]

theorem spec_find_loop (hash key n live : Int) (T : List Int) (E : List S62) (h0 : 0 ≤ hash) (h1 : hash ≤ 18446744073709551615) (hn0 : 0 < n) (hn1 : n ≤ 1000000) (hT : (T.length : Int) = n) (hin : ∀ x ∈ T, x < E.length) (J : Nat) (hJ1 : J ≤ 1900000) (hJ : Stop T E hash key (path hash n J)) (d : Nat) :
    ∀ (k j : Nat), j + d = J → d < k → (∀ i, j ≤ i → i < J → ¬ Stop T E hash key (path hash n i)) →
    spec_l7Find.l0 k hash key n (path hash n j) ((j : Int) + 1) ((j : Int) + 1) T E live = some (if rd T (path hash n J) < 0 then -1 else rd T (path hash n J), (J : Int) + 1) := by
  induction d with
  | zero =>
    intro k j g1 g2 g3
    obtain ⟨k, rfl⟩ : ∃ m, k = m + 1 := ⟨k - 1, by omega⟩
    obtain rfl : j = J := by omega
    have hr := path_range hash n hn0 j
    simp only [spec_l7Find.l0]
    rw [if_pos hr.1, if_pos (by omega)]
    generalize path hash n j = s at *
    by_cases hneg : rd T s < 0
    · rw [if_neg (by omega), if_pos hneg]
    · have hp : rd T s < E.length := hin _ (by
        unfold rd
        rw [List.getD_eq_getElem?_getD, List.getElem?_eq_getElem (show s.toNat < T.length by omega)]
        exact List.getElem_mem _)
      rw [if_pos (by omega), if_pos (by omega), if_pos hp, if_neg hneg]
      rcases hJ with hJ | ⟨e1, e2, e3⟩
      · exact absurd hJ hneg
      · rw [if_neg (by rw [e1]; simp), if_pos e2, if_pos e3]
  | succ d ih =>
    intro k j g1 g2 g3
    obtain ⟨k, rfl⟩ : ∃ m, k = m + 1 := ⟨k - 1, by omega⟩
    have hr := path_range hash n hn0 j
    have hns := g3 j (by omega) (by omega)
    have hnext := spec_next hash n (path hash n j) (j + 1) h0 h1 hn0 hn1 hr.1 hr.2 (by omega) (by omega)
    have hih := ih k (j + 1) (by omega) (by omega) (fun i hi => g3 i (by omega))
    have w1 : wrap64 ((j : Int) + 1 + 1) = (((j + 1 : Nat) : Int) + 1) := by rw [wrap_in _ (by omega) (by omega)]; omega
    have e2 : nxt hash n (path hash n j) (5 * ((j + 1 : Nat) : Int)) = path hash n (j + 1) := by
      show _ = nxt hash n (path hash n j) (5 * ((j : Int) + 1))
      congr 2
    rw [e2] at hnext
    have hnext' : spec_l7Next.f (path hash n j) hash ((j : Int) + 1) n = some (path hash n (j + 1)) := by
      rw [← hnext]
      congr 1
    simp only [spec_l7Find.l0]
    rw [if_pos hr.1, if_pos (by omega)]
    have hneg : ¬ rd T (path hash n j) < 0 := fun h => hns (Or.inl h)
    have hno : ¬ ((rd_T62 E (rd T (path hash n j))).f3 = false ∧ (rd_T62 E (rd T (path hash n j))).f0 = hash ∧ (rd_T62 E (rd T (path hash n j))).f1 = key) := fun h => hns (Or.inr h)
    have hp : rd T (path hash n j) < E.length := hin _ (by
      unfold rd
      rw [List.getD_eq_getElem?_getD, List.getElem?_eq_getElem (show (path hash n j).toNat < T.length by omega)]
      exact List.getElem_mem _)
    rw [if_pos (by omega), if_pos (by omega), if_pos hp, hnext', w1]
    simp only [Option.bind_some]
    rw [hih]
    by_cases t3 : (rd_T62 E (rd T (path hash n j))).f3 = true
    · rw [if_pos t3]
    · rw [if_neg t3]
      by_cases t0 : (rd_T62 E (rd T (path hash n j))).f0 = hash
      · rw [if_pos t0]
        by_cases t1 : (rd_T62 E (rd T (path hash n j))).f1 = key
        · exact absurd ⟨by simpa using t3, t0, t1⟩ hno
        · rw [if_neg t1]
      · rw [if_neg t0]

end Go.Proofs.Ytohilfkdfcihgaa.DictT
