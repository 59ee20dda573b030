/- What the program's and the reference's DictOk come to: the same. Plain law; no condition beyond those of the theorems. -/
import Derived.Test.YtohilfkdfcihgaaDictV
set_option linter.unusedVariables false
set_option linter.unusedSimpArgs false
namespace Go.Proofs.Ytohilfkdfcihgaa.DictT
open Go.RowKit Go.Proofs.Ytohilfkdfcihgaa.PDi Go.Proofs.YtohilfkdfcihgaaW.PrintWords Go.Proofs.YtohilfkdfcihgaaW.PrintLast Go.Proofs.YtohilfkdfcihgaaW.PrintMore

def gzB : List S62 → Bool
  | [] => true
  | e :: r => (!e.f3 || (e.f1 == 0 && e.f2 == 0)) && gzB r
def cntI : List S62 → Int
  | [] => 0
  | e :: r => (if e.f3 = true then 0 else 1) + cntI r
def ndB : List S62 → List (Int × Int) → Bool
  | [], _ => true
  | e :: r, S => if e.f3 = true then ndB r S else (!decide ((e.f0, e.f1) ∈ S)) && ndB r (S ++ [(e.f0, e.f1)])

theorem cntI_range : ∀ E, 0 ≤ cntI E ∧ cntI E ≤ E.length
  | [] => by simp [cntI]
  | e :: r => by
    have := cntI_range r
    simp only [cntI, List.length_cons]
    split <;> omega

theorem okLoop_eq (T : List Int) (live : Int) (X : List Int) : ∀ (E : List S62) (i : Int) (slots : List Int) (lv : Int) (S : List (Int × Int)), tab T.length E i slots = some X →
    okLoop T live E i slots lv S = some (gzB E && ndB E S && decide (X = T) && (lv + cntI E == live)) := by
  intro E
  induction E with
  | nil =>
    intro i slots lv S h
    simp only [tab, Option.some.injEq] at h
    subst h
    simp [okLoop, gzB, ndB, cntI]
  | cons e r ih =>
    intro i slots lv S h
    simp only [tab, lay1] at h
    obtain ⟨s', hs', h'⟩ := Option.bind_eq_some_iff.1 h
    simp only [okLoop]
    rw [hs']
    simp only [Option.bind_some]
    cases h3 : e.f3 with
    | true =>
      rw [if_pos rfl]
      by_cases hz : e.f1 = 0 ∧ e.f2 = 0
      · rw [if_pos hz, ih _ _ _ _ h']
        simp [gzB, ndB, cntI, h3, hz.1, hz.2]
      · rw [if_neg hz]
        have : (e.f1 == 0 && e.f2 == 0) = false := by simpa using hz
        simp [gzB, h3, this]
    | false =>
      rw [if_neg (by simp)]
      by_cases hd : (e.f0, e.f1) ∈ S
      · rw [if_pos hd]
        simp [ndB, h3, hd]
      · rw [if_neg hd, ih _ _ _ _ h']
        simp [gzB, ndB, cntI, h3, hd, Int.add_assoc]

/-- The live keys. -/
def livek : List S62 → List (Int × Int)
  | [] => []
  | e :: r => if e.f3 = true then livek r else (e.f0, e.f1) :: livek r

theorem livek_append : ∀ (A B : List S62), livek (A ++ B) = livek A ++ livek B
  | [], B => rfl
  | e :: r, B => by
    simp only [List.cons_append, livek]
    rw [livek_append r B]
    split <;> rfl

theorem take_at (E : List S62) (i : Nat) (hi : i < E.length) : E.take (i + 1) = E.take i ++ [rd_T62 E i] := by
  rw [List.take_succ_eq_append_getElem hi]
  congr 2
  unfold rd_T62
  rw [List.getD_eq_getElem?_getD, Int.toNat_natCast, List.getElem?_eq_getElem hi]
  rfl

theorem livek_mem (E : List S62) : ∀ (i : Nat), i ≤ E.length → ∀ (a b : Int), (a, b) ∈ livek (E.take i) ↔ ∃ j : Nat, j < i ∧ (rd_T62 E j).f3 = false ∧ (rd_T62 E j).f0 = a ∧ (rd_T62 E j).f1 = b
  | 0, _, a, b => by simp [livek]
  | i + 1, h, a, b => by
    rw [take_at E i (by omega), livek_append, List.mem_append, livek_mem E i (by omega) a b]
    have : ((a, b) ∈ livek [rd_T62 E i]) ↔ ((rd_T62 E i).f3 = false ∧ (rd_T62 E i).f0 = a ∧ (rd_T62 E i).f1 = b) := by
      simp only [livek]
      cases hc : (rd_T62 E i).f3 <;> simp [eq_comm]
    rw [this]
    constructor
    · rintro (⟨j, h1, h2⟩ | h2)
      · exact ⟨j, by omega, h2⟩
      · exact ⟨i, by omega, h2⟩
    · rintro ⟨j, h1, h2⟩
      by_cases hj : j = i
      · subst hj
        exact Or.inr h2
      · exact Or.inl ⟨j, by omega, h2⟩

theorem ok_l2 (m n : Nat) (hn : n = 2 ^ m) (hn6 : n ≤ 65536) (E : List S62) (hE : E.length < n) (hH : ∀ e ∈ E, 0 ≤ e.f0 ∧ e.f0 ≤ 18446744073709551615) (T : List Int) (hI : Inv n E E.length T) (live : Int) (d : Nat) : ∀ (k i : Nat), i + d = E.length → 100000 + d < k →
    spec_DictOk.l2 k i T E live = some (ndB (E.drop i) (livek (E.take i))) := by
  induction d with
  | zero =>
    intro k i h hk
    obtain ⟨k, rfl⟩ : ∃ q, k = q + 1 := ⟨k - 1, by omega⟩
    obtain rfl : i = E.length := by omega
    simp only [spec_DictOk.l2]
    rw [if_neg (by omega), List.drop_length]
    rfl
  | succ d ih =>
    intro k i h hk
    obtain ⟨k, rfl⟩ : ∃ q, k = q + 1 := ⟨k - 1, by omega⟩
    have he : rd_T62 E i ∈ E := by
      unfold rd_T62
      rw [List.getD_eq_getElem?_getD, Int.toNat_natCast, List.getElem?_eq_getElem (show i < E.length by omega)]
      exact List.getElem_mem _
    obtain ⟨g0, g1⟩ := hH _ he
    have hih := ih k (i + 1) (by omega) (by omega)
    rw [take_at E i (by omega), livek_append] at hih
    have ei : wrap64 ((i : Int) + 1) = ((i + 1 : Nat) : Int) := by rw [wrap_in _ (by omega) (by omega)]; rfl
    simp only [spec_DictOk.l2]
    rw [if_pos (by omega), if_pos (by omega), ei, hih, drop_at E i (by omega)]
    simp only [ndB]
    cases h3 : (rd_T62 E i).f3 with
    | true =>
      rw [if_pos rfl, if_pos rfl]
      simp [livek, h3]
    | false =>
      rw [if_neg (by simp), if_neg (by simp)]
      obtain ⟨J, hJ, hs, hmin, _, hf⟩ := find_both m n hn hn6 E hE T hI live (rd_T62 E i).f0 (rd_T62 E i).f1 g0 g1
      rw [hf k (by omega)]
      have ho := find_own m n hn E hE hH T hI i (by omega) h3 J hs hmin
      simp only [Option.bind_some]
      by_cases hd : ((rd_T62 E i).f0, (rd_T62 E i).f1) ∈ livek (E.take i)
      · rw [if_neg (fun hx => by
          obtain ⟨j, hj, hjj⟩ := (livek_mem E i (by omega) _ _).1 hd
          exact ho.1 hx j hj hjj)]
        simp [hd]
      · rw [if_pos (ho.2 (fun j hj hjj => hd ((livek_mem E i (by omega) _ _).2 ⟨j, hj, hjj⟩)))]
        simp [hd, livek, h3]

theorem ok_l1 (n : Nat) (hn6 : n ≤ 65536) (E : List S62) (T X : List Int) (hX : X.length = n) (hT : T.length = n) (live : Int) (d : Nat) : ∀ (k i : Nat), i + d = n → (X.take i = T.take i) →
    spec_DictOk.l1 (k + d + 1) n X i T E live = if X = T then spec_DictOk.l2 k 0 T E live else some false := by
  induction d with
  | zero =>
    intro k i h h2
    simp only [spec_DictOk.l1]
    rw [if_neg (by omega)]
    rw [List.take_of_length_le (by omega), List.take_of_length_le (by omega)] at h2
    rw [if_pos h2]
  | succ d ih =>
    intro k i h h2
    have e : k + (d + 1) + 1 = (k + d + 1) + 1 := by omega
    rw [e]
    have hih := ih k (i + 1) (by omega)
    generalize k + d + 1 = q at *
    have hx : rd X i = X[i]'(by omega) := by unfold rd; rw [List.getD_eq_getElem?_getD, Int.toNat_natCast, List.getElem?_eq_getElem (show i < X.length by omega)]; rfl
    have ht : rd T i = T[i]'(by omega) := by unfold rd; rw [List.getD_eq_getElem?_getD, Int.toNat_natCast, List.getElem?_eq_getElem (show i < T.length by omega)]; rfl
    simp only [spec_DictOk.l1]
    rw [if_pos (by omega), if_pos (by omega), if_pos (by omega), if_pos (by omega)]
    by_cases hc : rd X i = rd T i
    · rw [if_pos hc, wrap_in _ (by omega) (by omega)]
      exact hih (by
        rw [List.take_succ_eq_append_getElem (show i < X.length by omega), List.take_succ_eq_append_getElem (show i < T.length by omega), h2, ← hx, ← ht, hc])
    · rw [if_neg hc, if_neg (fun hx => hc (by rw [hx]))]

theorem ok_l0 (n : Nat) (E : List S62) (T : List Int) (live : Int) (hE : E.length ≤ 65536) (d : Nat) : ∀ (k i : Nat) (c : Int), i + d = E.length → 0 ≤ c → c ≤ i →
    spec_DictOk.l0 (k + d + 1) n c i T E live = if gzB (E.drop i) = true then (if c + cntI (E.drop i) = live then (spec_l7Table.f k E n).bind fun t => spec_DictOk.l1 k n t 0 T E live else some false) else some false := by
  induction d with
  | zero =>
    intro k i c h h0 h1
    obtain rfl : i = E.length := by omega
    simp only [spec_DictOk.l0]
    rw [if_neg (by omega), List.drop_length]
    simp [gzB, cntI]
  | succ d ih =>
    intro k i c h h0 h1
    have e : k + (d + 1) + 1 = (k + d + 1) + 1 := by omega
    rw [e]
    have hih0 := ih k (i + 1) c (by omega) (by omega) (by omega)
    have hih1 := ih k (i + 1) (c + 1) (by omega) (by omega) (by omega)
    generalize k + d + 1 = q at *
    have ei : wrap64 ((i : Int) + 1) = ((i + 1 : Nat) : Int) := by rw [wrap_in _ (by omega) (by omega)]; rfl
    simp only [spec_DictOk.l0]
    rw [if_pos (by omega), if_pos (by omega), ei, wrap_in (c + 1) (by omega) (by omega), hih0, hih1, drop_at E i (by omega)]
    have eg : gzB (rd_T62 E i :: E.drop (i + 1)) = ((!(rd_T62 E i).f3 || ((rd_T62 E i).f1 == 0 && (rd_T62 E i).f2 == 0)) && gzB (E.drop (i + 1))) := rfl
    have ec : cntI (rd_T62 E i :: E.drop (i + 1)) = (if (rd_T62 E i).f3 = true then 0 else 1) + cntI (E.drop (i + 1)) := rfl
    rw [eg, ec]
    by_cases h3 : (rd_T62 E i).f3 = true
    · rw [if_pos h3, if_pos h3]
      by_cases h1 : (rd_T62 E i).f1 = 0
      · rw [if_pos h1]
        by_cases h2 : (rd_T62 E i).f2 = 0
        · rw [if_pos h2]
          simp [h1, h2, h3]
        · rw [if_neg h2]
          simp [h1, h2, h3]
      · rw [if_neg h1]
        simp [h1, h3]
    · rw [if_neg h3, if_neg h3]
      simp [h3, Int.add_assoc]

/-- DictOk, the program's and the reference's. -/
theorem ok_both (T : List Int) (E : List S62) (live : Int) (hT : T.length < 1000000000000) (hE : E.length < 1000000000000) (hH : ∀ e ∈ E, 0 ≤ e.f0 ∧ e.f0 ≤ 18446744073709551615) :
    ∃ b, impl_DictOk.f T E live = some b ∧ (∀ k, 6000000000 ≤ k → spec_DictOk.f k T E live = some b) ∧
      (b = true → ∃ m, 3 ≤ m ∧ m ≤ 16 ∧ T.length = 2 ^ m ∧ (E.length : Int) ≤ 2 * T.length / 3 ∧ E.length < T.length ∧ T.length ≤ 65536 ∧ tab T.length E 0 (List.replicate T.length (-1)) = some T ∧ Inv T.length E E.length T ∧ gzB E = true ∧ ndB E [] = true ∧ cntI E = live) := by
  have hw1 : wrap64 ((T.length : Int) * 2) = (T.length : Int) * 2 := wrap_in _ (by omega) (by omega)
  have hw2 : wrap64 (Int.tdiv (wrap64 ((T.length : Int) * 2)) 3) = 2 * T.length / 3 := by
    rw [hw1, Int.tdiv_eq_ediv_of_nonneg (by omega), wrap_in _ (by omega) (by omega)]
    omega
  unfold impl_DictOk.f
  rw [if_pos ⟨hH, hT, hE⟩]
  by_cases hs : sizeOk (T.length : Int) = true
  · obtain ⟨m, m3, m16, hm⟩ := pow_of_size _ hs
    have hn6 : T.length ≤ 65536 := by
      rw [hm]
      exact Nat.pow_le_pow_right (show 0 < 2 by omega) (show m ≤ 16 by omega)
    have hn8 : 8 ≤ T.length := by
      rw [hm]
      exact Nat.pow_le_pow_right (show 0 < 2 by omega) (show 3 ≤ m by omega)
    by_cases hl : (E.length : Int) ≤ 2 * T.length / 3
    · rw [if_pos ⟨hs, hl⟩]
      have hEn : E.length < T.length := by omega
      obtain ⟨X, hX, hXI⟩ := tab_ok m T.length hm hn6 E hEn hH E.length 0 (by omega) _ (inv_zero _ E)
      rw [List.drop_zero] at hX
      refine ⟨_, okLoop_eq T live X E 0 _ 0 [] hX, ?_, ?_⟩
      · intro k hk
        unfold spec_DictOk.f
        rw [spec_size _ k (by omega), hs]
        simp only [Option.bind_some]
        rw [if_pos trivial, hw2]
        obtain ⟨k, rfl⟩ : ∃ q, k = (q + E.length + 1) + 1 := ⟨k - E.length - 2, by omega⟩
        simp only [spec_DictOk.j0]
        rw [if_neg (by rw [decide_eq_true_eq]; omega)]
        have h0 := ok_l0 T.length E T live (by omega) E.length k 0 0 (by omega) (by omega) (by omega)
        rw [List.drop_zero] at h0
        rw [show ((0 : Nat) : Int) = 0 from rfl] at h0
        rw [h0, spec_table m T.length hm hn6 E hEn hH k (by omega)]
        rw [show tab T.length E 0 (List.replicate T.length (-1)) = some X from hX]
        simp only [Option.bind_some]
        cases hg : gzB E with
        | false => rw [if_neg (by simp)]; simp
        | true =>
          rw [if_pos rfl]
          by_cases hc : 0 + cntI E = live
          · rw [if_pos hc]
            obtain ⟨k, rfl⟩ : ∃ q, k = q + T.length + 1 := ⟨k - T.length - 1, by omega⟩
            have h1 := ok_l1 T.length hn6 E T X hXI.len rfl live T.length k 0 (by omega) (by simp)
            rw [show ((0 : Nat) : Int) = 0 from rfl] at h1
            rw [h1]
            by_cases hXT : X = T
            · rw [if_pos hXT]
              have h2 := ok_l2 m T.length hm hn6 E hEn hH T (hXT ▸ hXI) live E.length k 0 (by omega) (by omega)
              rw [show ((0 : Nat) : Int) = 0 from rfl, List.drop_zero] at h2
              rw [h2]
              simp [livek, hXT, hc]
            · rw [if_neg hXT]
              simp [hXT]
          · rw [if_neg hc]
            have : (0 + cntI E == live) = false := by simpa using hc
            rw [this]
            simp
      · intro hb
        simp only [Bool.and_eq_true, decide_eq_true_eq, beq_iff_eq] at hb
        obtain ⟨⟨⟨b1, b2⟩, b3⟩, b4⟩ := hb
        exact ⟨m, m3, m16, hm, hl, hEn, hn6, b3 ▸ hX, b3 ▸ hXI, b1, b2, by omega⟩
    · rw [if_neg (fun h => hl h.2)]
      refine ⟨false, rfl, ?_, by simp⟩
      intro k hk
      unfold spec_DictOk.f
      rw [spec_size _ k (by omega), hs]
      simp only [Option.bind_some]
      rw [if_pos trivial, hw2]
      obtain ⟨k, rfl⟩ : ∃ q, k = q + 1 := ⟨k - 1, by omega⟩
      simp only [spec_DictOk.j0]
      rw [if_pos (by rw [decide_eq_true_eq]; omega)]
  · rw [if_neg (fun h => hs h.1)]
    refine ⟨false, rfl, ?_, by simp⟩
    intro k hk
    unfold spec_DictOk.f
    rw [spec_size _ k (by omega)]
    simp only [Option.bind_some]
    rw [if_neg (by simpa using hs)]
    obtain ⟨k, rfl⟩ : ∃ q, k = q + 1 := ⟨k - 1, by omega⟩
    simp only [spec_DictOk.j0]
    rw [if_pos trivial]

end Go.Proofs.Ytohilfkdfcihgaa.DictT
