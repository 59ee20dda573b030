/- At every count, two bounds and step, the program's SliceList answers as the reference's; what it returns is its own. No condition. -/
import Derived.Test.YtddljmfgmolhaaaPSlx3
set_option linter.unusedVariables false
set_option linter.unusedSimpArgs false
namespace Go.Proofs.Ytddljmfgmolhaaa.PureSl
open Go.RowKit Go.Proofs.Ytddljmfgmolhaaa.PSl Go.Proofs.YtddljmfgmolhaaaW.PrintWords Go.Proofs.YtddljmfgmolhaaaW.PrintLast

theorem take_set_succ {α : Type} {x3 x0 : List α} {i : Nat} {v : α} (h : x3.take i = x0.take i) (hl : x3.length = x0.length) (hv : x0[i]? = some v) : (x3.set i v).take (i + 1) = x0.take (i + 1) := by
  have hi : i < x0.length := (List.getElem?_eq_some_iff.1 hv).1
  apply List.ext_getElem?
  intro j
  by_cases hj : j < i
  · have := congrArg (fun l => l[j]?) h
    simp only [List.getElem?_take, hj, if_true] at this
    simp only [List.getElem?_take, show j < i + 1 by omega, if_true, List.getElem?_set, show i ≠ j by omega, if_false]
    exact this
  · by_cases hj2 : j = i
    · subst hj2
      simp only [List.getElem?_take, show j < j + 1 by omega, if_true, List.getElem?_set, hl, hi]
      exact hv.symm
    · simp only [List.getElem?_take, show ¬ j < i + 1 by omega, if_false]

theorem take_set_self {α : Type} {x : List α} {i : Nat} {v : α} (hi : i < x.length) : (x.set i v).take (i + 1) = x.take i ++ [v] := by
  apply List.ext_getElem?
  intro j
  rcases Nat.lt_trichotomy j i with h | h | h
  · rw [List.getElem?_append_left (by simp; omega)]
    simp only [List.getElem?_take, show j < i + 1 by omega, h, if_true, List.getElem?_set, show i ≠ j by omega, if_false]
  · subst h
    rw [List.getElem?_append_right (by simp; omega)]
    simp [hi, Nat.min_eq_left (Nat.le_of_lt hi)]
  · rw [List.getElem?_eq_none (by simp; omega), List.getElem?_eq_none (by simp; omega)]

theorem rd_at (x : List Int) (i : Nat) (h : i < x.length) : x[i]? = some (rd x (i : Int)) := by
  simp [rd, List.getElem?_eq_getElem h]

theorem wrap_succ (i : Nat) (h : i < 9000000000000000000) : wrap64 ((i : Int) + 1) = ((i + 1 : Nat) : Int) := by
  unfold wrap64
  omega

theorem wrap_in (i : Int) (h0 : -9223372036854775808 ≤ i) (h1 : i ≤ 9223372036854775807) : wrap64 i = i := by
  unfold wrap64
  omega

def seqFrom : Int → Nat → List Int
  | _, 0 => []
  | v, n + 1 => v :: seqFrom (v + 1) n

theorem seqFrom_length (n : Nat) : ∀ v, (seqFrom v n).length = n := by
  induction n with
  | zero => intro v; rfl
  | succ n ih => intro v; simp [seqFrom, ih]

theorem laws_eqInt64S_loop (x : List Int) (hn : x.length < 9000000000000000000) (d : Nat) : ∀ (k i : Nat), x.length = i + d → d < k → laws_eqInt64S.l0 k x x (i : Int) = some true := by
  induction d with
  | zero =>
    intro k i h1 h2
    obtain ⟨k, rfl⟩ : ∃ m, k = m + 1 := ⟨k - 1, by omega⟩
    simp only [laws_eqInt64S.l0]
    rw [if_neg (by omega)]
  | succ d ih =>
    intro k i h1 h2
    obtain ⟨k, rfl⟩ : ∃ m, k = m + 1 := ⟨k - 1, by omega⟩
    simp only [laws_eqInt64S.l0]
    rw [if_pos (by omega), if_pos (by omega), if_pos (by omega), if_pos trivial, wrap_succ i (by omega)]
    exact ih k (i + 1) (by omega) (by omega)

theorem laws_eqInt64S_some (x : List Int) (hn : x.length < 9000000000000000000) (k : Nat) (hk : x.length < k) : laws_eqInt64S.f k x x = some true := by
  unfold laws_eqInt64S.f
  rw [if_pos rfl]
  exact laws_eqInt64S_loop x hn x.length k 0 (by omega) hk

theorem laws_markInt64S_loop (d : Nat) : ∀ (k i : Nat) (x : List Int) (v : Int), x.length = i + d → x.length < 4000000000000000000 → 0 ≤ v → v + d < 9000000000000000000 → d < k → laws_markInt64S.l0 k x v (i : Int) = some (v + d, x.take i ++ seqFrom v d) := by
  induction d with
  | zero =>
    intro k i x v h1 hx hv hvd h2
    obtain ⟨k, rfl⟩ : ∃ m, k = m + 1 := ⟨k - 1, by omega⟩
    simp only [laws_markInt64S.l0]
    rw [if_neg (by omega), List.take_of_length_le (by omega)]
    simp [seqFrom]
  | succ d ih =>
    intro k i x v h1 hx hv hvd h2
    obtain ⟨k, rfl⟩ : ∃ m, k = m + 1 := ⟨k - 1, by omega⟩
    simp only [laws_markInt64S.l0]
    rw [if_pos (by omega), if_pos (by omega), wrap_succ i (by omega), Int.toNat_natCast, wrap_in (v + 1) (by omega) (by omega)]
    rw [ih k (i + 1) (x.set i v) (v + 1) (by rw [List.length_set]; omega) (by rw [List.length_set]; omega) (by omega) (by omega) (by omega), take_set_self (by omega)]
    simp only [seqFrom, List.append_assoc, List.singleton_append]
    congr 2
    omega

theorem laws_markInt64S_some (x : List Int) (k : Nat) (hx : x.length < 4000000000000000000) (hk : x.length < k) : laws_markInt64S.f k x 1 = some (1 + (x.length : Int), seqFrom 1 x.length) := by
  unfold laws_markInt64S.f
  rw [show (0 : Int) = ((0 : Nat) : Int) from rfl, laws_markInt64S_loop x.length k 0 x 1 (by omega) hx (by omega) (by omega) hk]
  simp

theorem laws_heldInt64S_loop (d : Nat) : ∀ (k i : Nat) (x : List Int) (v : Int), x.drop i = seqFrom v d → x.length = i + d → x.length < 4000000000000000000 → 0 ≤ v → v + d < 9000000000000000000 → d < k → laws_heldInt64S.l0 k x v (i : Int) = some (v + d) := by
  induction d with
  | zero =>
    intro k i x v h0 h1 hx hv hvd h2
    obtain ⟨k, rfl⟩ : ∃ m, k = m + 1 := ⟨k - 1, by omega⟩
    simp only [laws_heldInt64S.l0]
    rw [if_neg (by omega)]
    simp
  | succ d ih =>
    intro k i x v h0 h1 hx hv hvd h2
    obtain ⟨k, rfl⟩ : ∃ m, k = m + 1 := ⟨k - 1, by omega⟩
    have hi : i < x.length := by omega
    rw [List.drop_eq_getElem_cons hi] at h0
    simp only [seqFrom, List.cons.injEq] at h0
    have hr : rd x (i : Int) = v := by rw [← h0.1]; simp [rd, List.getElem?_eq_getElem hi]
    simp only [laws_heldInt64S.l0]
    rw [if_pos (by omega), if_pos (by omega), if_pos hr, wrap_succ i (by omega), wrap_in (v + 1) (by omega) (by omega)]
    rw [ih k (i + 1) x (v + 1) h0.2 (by omega) hx (by omega) (by omega) (by omega)]
    congr 1
    omega

theorem laws_heldInt64S_some (n k : Nat) (hx : n < 4000000000000000000) (hk : n < k) : laws_heldInt64S.f k (seqFrom 1 n) 1 = some (1 + (n : Int)) := by
  unfold laws_heldInt64S.f
  exact laws_heldInt64S_loop n k 0 (seqFrom 1 n) 1 rfl (by rw [seqFrom_length]; omega) (by rw [seqFrom_length]; omega) (by omega) (by omega) hk

theorem tmod_nonneg {a s : Int} (h : 0 ≤ a) : Int.tmod a s = a % s := Int.tmod_eq_emod_of_nonneg h

theorem up_loop (s a b : Int) (hs : 0 < s) (ha : 0 ≤ a) (hb : b ≤ 16384) (d : Nat) : ∀ (k : Nat) (i m : Int) (out : List Int) (N : Nat), (b - i).toNat = d → d < k → a ≤ i → i ≤ 16384 → 0 ≤ m → m < s → (i + m - a) % s = 0 → (b - (i + m)).toNat < N → out.length + d < 20000 →
    spec_SliceList.l0 k out s a b i = some (out ++ steps b s N (i + m), 0) := by
  induction d with
  | zero =>
    intro k i m out N h1 h2 h3 h4 h5 h6 h7 h8 h9
    obtain ⟨k, rfl⟩ : ∃ m, k = m + 1 := ⟨k - 1, by omega⟩
    obtain ⟨N, rfl⟩ : ∃ m, N = m + 1 := ⟨N - 1, by omega⟩
    simp only [spec_SliceList.l0, steps]
    rw [if_neg (by omega), if_pos (by omega), if_neg (by omega), List.append_nil]
  | succ d ih =>
    intro k i m out N h1 h2 h3 h4 h5 h6 h7 h8 h9
    obtain ⟨k, rfl⟩ : ∃ m, k = m + 1 := ⟨k - 1, by omega⟩
    obtain ⟨N, rfl⟩ : ∃ m, N = m + 1 := ⟨N - 1, by omega⟩
    have hw : wrap64 (i - a) = i - a := wrap_in _ (by omega) (by omega)
    have hw1 : wrap64 (i + 1) = i + 1 := wrap_in _ (by omega) (by omega)
    simp only [spec_SliceList.l0, hw, hw1, tmod_nonneg (show 0 ≤ i - a by omega)]
    rw [if_pos (by omega), if_neg (by omega)]
    by_cases hm : m = 0
    · subst hm
      rw [Int.add_zero] at h7 h8
      rw [if_pos h7, if_pos (by omega)]
      have hnext := ih k (i + 1) (s - 1) (out ++ [i]) N (by omega) (by omega) (by omega) (by omega) (by omega) (by omega) (by
        rw [show i + 1 + (s - 1) - a = (i - a) + s by omega, Int.add_emod_right]
        exact h7) (by omega) (by simp; omega)
      rw [hnext, show i + 1 + (s - 1) = i + s by omega, Int.add_zero]
      simp only [steps, if_pos (show s > 0 by omega), if_pos (show i < b by omega)]
      by_cases hge : s ≥ b - i
      · rw [if_pos hge]
        cases N with
        | zero => simp [steps]
        | succ N => simp only [steps, if_pos (show s > 0 by omega), if_neg (show ¬ i + s < b by omega)]; simp
      · rw [if_neg hge]
        simp
    · have hne : ¬ (i - a) % s = 0 := by
        intro he
        have h10 : (i + m - a) = (i - a) + m := by omega
        rw [h10, Int.add_emod, he, Int.zero_add, Int.emod_emod_of_dvd _ (Int.dvd_refl s), Int.emod_eq_of_lt h5 h6] at h7
        exact hm h7
      rw [if_neg hne]
      have hnext := ih k (i + 1) (m - 1) out (N + 1) (by omega) (by omega) (by omega) (by omega) (by omega) (by omega) (by
        rw [show i + 1 + (m - 1) - a = i + m - a by omega]
        exact h7) (by omega) (by omega)
      rw [hnext, show i + 1 + (m - 1) = i + m by omega]

theorem down_loop (s a b : Int) (hs : s < 0) (hs1 : -9223372036854775808 ≤ s) (ha : a ≤ 16384) (hb : -1 ≤ b) (d : Nat) : ∀ (k : Nat) (i m : Int) (out : List Int) (N : Nat), (i - b).toNat = d → d < k → i ≤ a → -1 ≤ i → 0 ≤ m → m < -s → (a - (i - m)) % (-s) = 0 → ((i - m) - b).toNat < N → out.length + d < 20000 →
    spec_SliceList.l1 k out s a b i = some (out ++ steps b s N (i - m), 0) := by
  induction d with
  | zero =>
    intro k i m out N h1 h2 h3 h4 h5 h6 h7 h8 h9
    obtain ⟨k, rfl⟩ : ∃ m, k = m + 1 := ⟨k - 1, by omega⟩
    obtain ⟨N, rfl⟩ : ∃ m, N = m + 1 := ⟨N - 1, by omega⟩
    simp only [spec_SliceList.l1, steps]
    rw [if_neg (by omega), if_neg (by omega), if_neg (by omega), List.append_nil]
  | succ d ih =>
    intro k i m out N h1 h2 h3 h4 h5 h6 h7 h8 h9
    obtain ⟨k, rfl⟩ : ∃ m, k = m + 1 := ⟨k - 1, by omega⟩
    obtain ⟨N, rfl⟩ : ∃ m, N = m + 1 := ⟨N - 1, by omega⟩
    have hw : wrap64 (a - i) = a - i := wrap_in _ (by omega) (by omega)
    have hw1 : wrap64 (i - 1) = i - 1 := wrap_in _ (by omega) (by omega)
    have ht : Int.tmod (a - i) s = (a - i) % (-s) := by
      rw [tmod_nonneg (by omega), Int.emod_neg]
    simp only [spec_SliceList.l1, hw, hw1, ht]
    rw [if_pos (by omega), if_neg (by omega)]
    by_cases hm : m = 0
    · subst hm
      rw [Int.sub_zero] at h7 h8
      rw [if_pos h7, if_pos (by omega)]
      have hnext := ih k (i - 1) (-s - 1) (out ++ [i]) N (by omega) (by omega) (by omega) (by omega) (by omega) (by omega) (by
        rw [show a - (i - 1 - (-s - 1)) = (a - i) + -s by omega, Int.add_emod_right]
        exact h7) (by omega) (by simp; omega)
      rw [hnext, show i - 1 - (-s - 1) = i + s by omega, Int.sub_zero]
      simp only [steps, if_neg (show ¬ s > 0 by omega), if_pos (show i > b by omega)]
      simp
    · have hne : ¬ (a - i) % (-s) = 0 := by
        intro he
        have h10 : a - (i - m) = (a - i) + m := by omega
        rw [h10, Int.add_emod, he, Int.zero_add, Int.emod_emod_of_dvd _ (Int.dvd_refl (-s)), Int.emod_eq_of_lt h5 h6] at h7
        exact hm h7
      rw [if_neg hne]
      have hnext := ih k (i - 1) (m - 1) out (N + 1) (by omega) (by omega) (by omega) (by omega) (by omega) (by omega) (by
        rw [show i - 1 - (m - 1) = i - m by omega]
        exact h7) (by omega) (by omega)
      rw [hnext, show i - 1 - (m - 1) = i - m by omega]

theorem clampV (y low high : Int) (hlh : low ≤ high) : (if y < low then some low else if y > high then some high else some y) = some (mn (mx y low) high) := by
  unfold mn mx
  by_cases h1 : y < low
  · simp only [if_pos h1, if_neg (show ¬ high < low by omega)]
  · simp only [if_neg h1]
    by_cases h2 : y > high
    · simp only [if_pos h2]
    · simp only [if_neg h2]

theorem clamp_some (k : Nat) (n : Int) (h : Bool) (x low high z : Int) (hk : 0 < k) (hlh : low ≤ high) : spec_l3Clamp.f k n h x low high z = some (bnd n low high h x z) := by
  obtain ⟨k, rfl⟩ : ∃ m, k = m + 1 := ⟨k - 1, by omega⟩
  unfold spec_l3Clamp.f bnd
  cases h with
  | false => rfl
  | true =>
    simp only [if_true]
    by_cases h0 : x < 0
    · rw [if_pos h0, if_pos h0]
      simp only [spec_l3Clamp.j0]
      exact clampV _ _ _ hlh
    · rw [if_neg h0, if_neg h0]
      simp only [spec_l3Clamp.j0]
      exact clampV _ _ _ hlh

theorem spec_j1 (k : Nat) (n s : Int) (h1 : Bool) (x1 : Int) (h2 : Bool) (x2 : Int) (hk : 20000 < k) (hn0 : 0 ≤ n) (hn1 : n ≤ 16384) (hx1 : (Lit.int .i64 x1).wf = true) (hx2 : (Lit.int .i64 x2).wf = true) (hs0 : -9223372036854775808 ≤ s) :
    spec_SliceList.j1 k n [] s h1 x1 h2 x2 = some (if s = 0 then ([], 2) else if s < 0 then (steps (bnd n (-1) (n - 1) h2 x2 (-1)) s 20000 (bnd n (-1) (n - 1) h1 x1 (n - 1)), 0) else (steps (bnd n 0 n h2 x2 n) s 20000 (bnd n 0 n h1 x1 0), 0)) := by
  obtain ⟨k, rfl⟩ : ∃ m, k = m + 1 := ⟨k - 1, by omega⟩
  simp only [spec_SliceList.j1]
  by_cases h0 : s = 0
  · rw [if_pos h0, if_pos h0]
  · rw [if_neg h0, if_neg h0]
    by_cases hpos : s > 0
    · rw [if_pos hpos, if_neg (by omega), clamp_some k n h1 x1 0 n 0 (by omega) hn0]
      simp only [Option.bind_some]
      rw [clamp_some k n h2 x2 0 n n (by omega) hn0]
      simp only [Option.bind_some]
      have r1 := bnd_range n 0 n h1 x1 0 hn0 (by omega) hn0
      have r2 := bnd_range n 0 n h2 x2 n hn0 hn0 (by omega)
      have := up_loop s (bnd n 0 n h1 x1 0) (bnd n 0 n h2 x2 n) hpos r1.1 (by omega) _ k (bnd n 0 n h1 x1 0) 0 [] 20000 rfl (by omega) (by omega) (by omega) (by omega) (by omega) (by simp) (by omega) (by simp; omega)
      rw [this, Int.add_zero, List.nil_append]
    · have hw : wrap64 (n - 1) = n - 1 := wrap_in _ (by omega) (by omega)
      rw [if_neg hpos, if_pos (by omega), hw, clamp_some k n h1 x1 (-1) (n - 1) (n - 1) (by omega) (by omega)]
      simp only [Option.bind_some]
      rw [clamp_some k n h2 x2 (-1) (n - 1) (-1) (by omega) (by omega)]
      simp only [Option.bind_some]
      have r1 := bnd_range n (-1) (n - 1) h1 x1 (n - 1) (by omega) (by omega) (by omega)
      have r2 := bnd_range n (-1) (n - 1) h2 x2 (-1) (by omega) (by omega) (by omega)
      have := down_loop s (bnd n (-1) (n - 1) h1 x1 (n - 1)) (bnd n (-1) (n - 1) h2 x2 (-1)) (by omega) hs0 (by omega) r2.1 _ k (bnd n (-1) (n - 1) h1 x1 (n - 1)) 0 [] 20000 rfl (by omega) (by omega) (by omega) (by omega) (by omega) (by simp) (by omega) (by simp; omega)
      rw [this, Int.sub_zero, List.nil_append]

theorem wf_range {x : Int} (h : (Lit.int .i64 x).wf = true) : -9223372036854775808 ≤ x ∧ x ≤ 9223372036854775807 := by
  simp only [Lit.wf, Bool.and_eq_true, decide_eq_true_eq] at h
  exact h

theorem spec_some (k : Nat) (n : Int) (h1 : Bool) (x1 : Int) (h2 : Bool) (x2 : Int) (h3 : Bool) (x3 : Int) (hk : 20001 < k) (hx1 : (Lit.int .i64 x1).wf = true) (hx2 : (Lit.int .i64 x2).wf = true) (hx3 : (Lit.int .i64 x3).wf = true) :
    spec_SliceList.f k n h1 x1 h2 x2 h3 x3 = some (sliceList n h1 x1 h2 x2 h3 x3) := by
  have hr := wf_range hx3
  obtain ⟨k, rfl⟩ : ∃ m, k = m + 1 := ⟨k - 1, by omega⟩
  unfold spec_SliceList.f sliceList
  by_cases h0 : n < 0
  · simp only [Option.bind_some, spec_SliceList.j0, if_pos h0, if_true, if_pos (Or.inl h0)]
  · by_cases h4 : n > 16384
    · have hd : decide (n > 16384) = true := decide_eq_true h4
      simp only [Option.bind_some, spec_SliceList.j0, if_neg h0, hd, if_true]
      rw [if_pos (Or.inr h4)]
    · have hd : decide (n > 16384) = false := decide_eq_false h4
      simp only [Option.bind_some, spec_SliceList.j0, if_neg h0, hd, Bool.false_eq_true, if_false]
      rw [if_neg (show ¬ (n < 0 ∨ n > 16384) by omega)]
      cases h3 with
      | true =>
        simp only [if_true]
        exact spec_j1 k n x3 h1 x1 h2 x2 (by omega) (by omega) (by omega) hx1 hx2 hr.1
      | false =>
        simp only [Bool.false_eq_true, if_false]
        exact spec_j1 k n 1 h1 x1 h2 x2 (by omega) (by omega) (by omega) hx1 hx2 (by omega)

theorem steps_length (b s : Int) (d : Nat) : ∀ p, (steps b s d p).length ≤ d := by
  induction d with
  | zero => intro p; simp [steps]
  | succ d ih =>
    intro p
    simp only [steps]
    repeat' split
    all_goals simp
    all_goals exact ih _

theorem list_length (n : Int) (h1 : Bool) (x1 : Int) (h2 : Bool) (x2 : Int) (h3 : Bool) (x3 : Int) : (sliceList n h1 x1 h2 x2 h3 x3).1.length ≤ 20000 := by
  unfold sliceList
  split
  · simp
  · simp only
    generalize (if h3 = true then x3 else 1) = s
    split
    · simp
    · split
      · exact steps_length _ _ _ _
      · exact steps_length _ _ _ _

theorem law (k : Nat) (hk : 30000 < k) (n : Int) (h1 : Bool) (x1 : Int) (h2 : Bool) (x2 : Int) (h3 : Bool) (x3 : Int) (hx1 : (Lit.int .i64 x1).wf = true) (hx2 : (Lit.int .i64 x2).wf = true) (hx3 : (Lit.int .i64 x3).wf = true) :
    laws_FnExactSliceList.f (k + 2) n h1 x1 h2 x2 h3 x3 = some true := by
  have hr := wf_range hx3
  have hl := list_length n h1 x1 h2 x2 h3 x3
  have hs := spec_some (k + 2) n h1 x1 h2 x2 h3 x3 (by omega) hx1 hx2 hx3
  have hi : impl_SliceList.f n h1 x1 h2 x2 h3 x3 = some (sliceList n h1 x1 h2 x2 h3 x3) := by
    unfold impl_SliceList.f
    rw [if_pos hr]
  generalize sliceList n h1 x1 h2 x2 h3 x3 = r at *
  have he : ∀ k', 30000 < k' → laws_eqInt64S.f k' r.1 r.1 = some true := fun k' h => laws_eqInt64S_some r.1 (by omega) k' (by omega)
  unfold laws_FnExactSliceList.f laws_toBound.f
  simp only [Option.bind_some]
  rw [hs]
  simp only [Option.bind_some]
  rw [hi]
  simp only [Option.bind_some]
  rw [he (k + 2) (by omega)]
  simp only [Option.bind_some, if_true, bne_self_eq_false]
  simp only [laws_FnExactSliceList.j0, Bool.false_eq_true, if_false]
  rw [laws_markInt64S_some r.1 (k + 1) (by omega) (by omega)]
  simp only [Option.bind_some]
  rw [laws_heldInt64S_some r.1.length (k + 1) (by omega) (by omega)]
  simp only [Option.bind_some]
  rw [if_neg (by omega), if_pos trivial]
  unfold laws_toBound.f
  simp only [Option.bind_some]
  rw [hi]
  simp only [Option.bind_some]
  rw [he (k + 1) (by omega)]
  simp only [Option.bind_some, if_true, bne_self_eq_false]
  simp only [laws_FnExactSliceList.j1, Bool.false_eq_true, if_false]
  rw [laws_heldInt64S_some r.1.length k (by omega) (by omega)]
  simp only [Option.bind_some]
  rw [if_neg (by omega), if_pos trivial]

end Go.Proofs.Ytddljmfgmolhaaa.PureSl
namespace Go.Proofs.Ytddljmfgmolhaaa.Pure
open Go.RowKit Go.Proofs.Ytddljmfgmolhaaa.PSl
theorem FnExactSliceList : ∀ (a0 : Int) (a1_0 : Bool) (a1_1 : Int) (a2_0 : Bool) (a2_1 : Int) (a3_0 : Bool) (a3_1 : Int), (Lit.int .i64 a0).wf = true → (Lit.int .i64 a1_1).wf = true → (Lit.int .i64 a2_1).wf = true → (Lit.int .i64 a3_1).wf = true → ∃ k, laws_FnExactSliceList.f k a0 a1_0 a1_1 a2_0 a2_1 a3_0 a3_1 = some true :=
  fun n h1 x1 h2 x2 h3 x3 _ w1 w2 w3 => ⟨30001 + 2, PureSl.law 30001 (by omega) n h1 x1 h2 x2 h3 x3 w1 w2 w3⟩
end Go.Proofs.Ytddljmfgmolhaaa.Pure
