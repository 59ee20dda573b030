/- The reference's SliceList and TextCut, as plain functions. Plain law; no condition beyond those of the theorems. -/
import Derived.Test.YtfgiodolgmfdoaaDoorGCut
import Derived.Test.YtfgiodolgmfdoaaDoorPQx1
set_option linter.unusedVariables false
set_option linter.unusedSimpArgs false
namespace Go.Proofs.YtfgiodolgmfdoaaDoor.PT
open Go.RowKit Go.Proofs.YtfgiodolgmfdoaaDoorW.PrintWords Go.Proofs.YtfgiodolgmfdoaaDoorW.PrintLast

theorem tmod_nonneg {a s : Int} (h : 0 ≤ a) : Int.tmod a s = a % s := Int.tmod_eq_emod_of_nonneg h

theorem up_loop (s a b : Int) (hs : 0 < s) (ha : 0 ≤ a) (hb : b ≤ 16384) (d : Nat) : ∀ (k : Nat) (i m : Int) (out : List Int) (N : Nat), (b - i).toNat = d → d < k → a ≤ i → i ≤ 16384 → 0 ≤ m → m < s → (i + m - a) % s = 0 → (b - (i + m)).toNat < N → out.length + d < 20000 →
    spec_SliceList.l0 k out s a b i = some (out ++ steps b s N (i + m), 0) := by
  induction d with
  | zero =>
    intro k i m out N h1 h2 h3 h4 h5 h6 h7 h8 h9
    obtain ⟨k, rfl⟩ : ∃ m, k = m + 1 := ⟨k - 1, by omega⟩
    obtain ⟨N, rfl⟩ : ∃ m, N = m + 1 := ⟨N - 1, by omega⟩
    simp only [spec_SliceList.l0, steps]
    rw [if_neg (by omega), if_pos (by omega), if_neg (by omega), List.append_nil]
  | succ d ih =>
    intro k i m out N h1 h2 h3 h4 h5 h6 h7 h8 h9
    obtain ⟨k, rfl⟩ : ∃ m, k = m + 1 := ⟨k - 1, by omega⟩
    obtain ⟨N, rfl⟩ : ∃ m, N = m + 1 := ⟨N - 1, by omega⟩
    have hw : wrap64 (i - a) = i - a := wrap_in _ (by omega) (by omega)
    have hw1 : wrap64 (i + 1) = i + 1 := wrap_in _ (by omega) (by omega)
    simp only [spec_SliceList.l0, hw, hw1, tmod_nonneg (show 0 ≤ i - a by omega)]
    rw [if_pos (by omega), if_neg (by omega)]
    by_cases hm : m = 0
    · subst hm
      rw [Int.add_zero] at h7 h8
      rw [if_pos h7, if_pos (by omega)]
      have hnext := ih k (i + 1) (s - 1) (out ++ [i]) N (by omega) (by omega) (by omega) (by omega) (by omega) (by omega) (by
        rw [show i + 1 + (s - 1) - a = (i - a) + s by omega, Int.add_emod_right]
        exact h7) (by omega) (by simp; omega)
      rw [hnext, show i + 1 + (s - 1) = i + s by omega, Int.add_zero]
      simp only [steps, if_pos (show s > 0 by omega), if_pos (show i < b by omega)]
      by_cases hge : s ≥ b - i
      · rw [if_pos hge]
        cases N with
        | zero => simp [steps]
        | succ N => simp only [steps, if_pos (show s > 0 by omega), if_neg (show ¬ i + s < b by omega)]; simp
      · rw [if_neg hge]
        simp
    · have hne : ¬ (i - a) % s = 0 := by
        intro he
        have h10 : (i + m - a) = (i - a) + m := by omega
        rw [h10, Int.add_emod, he, Int.zero_add, Int.emod_emod_of_dvd _ (Int.dvd_refl s), Int.emod_eq_of_lt h5 h6] at h7
        exact hm h7
      rw [if_neg hne]
      have hnext := ih k (i + 1) (m - 1) out (N + 1) (by omega) (by omega) (by omega) (by omega) (by omega) (by omega) (by
        rw [show i + 1 + (m - 1) - a = i + m - a by omega]
        exact h7) (by omega) (by omega)
      rw [hnext, show i + 1 + (m - 1) = i + m by omega]

theorem down_loop (s a b : Int) (hs : s < 0) (hs1 : -9223372036854775808 ≤ s) (ha : a ≤ 16384) (hb : -1 ≤ b) (d : Nat) : ∀ (k : Nat) (i m : Int) (out : List Int) (N : Nat), (i - b).toNat = d → d < k → i ≤ a → -1 ≤ i → 0 ≤ m → m < -s → (a - (i - m)) % (-s) = 0 → ((i - m) - b).toNat < N → out.length + d < 20000 →
    spec_SliceList.l1 k out s a b i = some (out ++ steps b s N (i - m), 0) := by
  induction d with
  | zero =>
    intro k i m out N h1 h2 h3 h4 h5 h6 h7 h8 h9
    obtain ⟨k, rfl⟩ : ∃ m, k = m + 1 := ⟨k - 1, by omega⟩
    obtain ⟨N, rfl⟩ : ∃ m, N = m + 1 := ⟨N - 1, by omega⟩
    simp only [spec_SliceList.l1, steps]
    rw [if_neg (by omega), if_neg (by omega), if_neg (by omega), List.append_nil]
  | succ d ih =>
    intro k i m out N h1 h2 h3 h4 h5 h6 h7 h8 h9
    obtain ⟨k, rfl⟩ : ∃ m, k = m + 1 := ⟨k - 1, by omega⟩
    obtain ⟨N, rfl⟩ : ∃ m, N = m + 1 := ⟨N - 1, by omega⟩
    have hw : wrap64 (a - i) = a - i := wrap_in _ (by omega) (by omega)
    have hw1 : wrap64 (i - 1) = i - 1 := wrap_in _ (by omega) (by omega)
    have ht : Int.tmod (a - i) s = (a - i) % (-s) := by
      rw [tmod_nonneg (by omega), Int.emod_neg]
    simp only [spec_SliceList.l1, hw, hw1, ht]
    rw [if_pos (by omega), if_neg (by omega)]
    by_cases hm : m = 0
    · subst hm
      rw [Int.sub_zero] at h7 h8
      rw [if_pos h7, if_pos (by omega)]
      have hnext := ih k (i - 1) (-s - 1) (out ++ [i]) N (by omega) (by omega) (by omega) (by omega) (by omega) (by omega) (by
        rw [show a - (i - 1 - (-s - 1)) = (a - i) + -s by omega, Int.add_emod_right]
        exact h7) (by omega) (by simp; omega)
      rw [hnext, show i - 1 - (-s - 1) = i + s by omega, Int.sub_zero]
      simp only [steps, if_neg (show ¬ s > 0 by omega), if_pos (show i > b by omega)]
      simp
    · have hne : ¬ (a - i) % (-s) = 0 := by
        intro he
        have h10 : a - (i - m) = (a - i) + m := by omega
        rw [h10, Int.add_emod, he, Int.zero_add, Int.emod_emod_of_dvd _ (Int.dvd_refl (-s)), Int.emod_eq_of_lt h5 h6] at h7
        exact hm h7
      rw [if_neg hne]
      have hnext := ih k (i - 1) (m - 1) out (N + 1) (by omega) (by omega) (by omega) (by omega) (by omega) (by omega) (by
        rw [show i - 1 - (m - 1) = i - m by omega]
        exact h7) (by omega) (by omega)
      rw [hnext, show i - 1 - (m - 1) = i - m by omega]

theorem clampV (y low high : Int) (hlh : low ≤ high) : (if y < low then some low else if y > high then some high else some y) = some (mn (mx y low) high) := by
  unfold mn mx
  by_cases h1 : y < low
  · simp only [if_pos h1, if_neg (show ¬ high < low by omega)]
  · simp only [if_neg h1]
    by_cases h2 : y > high
    · simp only [if_pos h2]
    · simp only [if_neg h2]

theorem clamp_some (k : Nat) (n : Int) (h : Bool) (x low high z : Int) (hk : 0 < k) (hlh : low ≤ high) : spec_l3Clamp.f k n h x low high z = some (bnd n low high h x z) := by
  obtain ⟨k, rfl⟩ : ∃ m, k = m + 1 := ⟨k - 1, by omega⟩
  unfold spec_l3Clamp.f bnd
  cases h with
  | false => rfl
  | true =>
    simp only [if_true]
    by_cases h0 : x < 0
    · rw [if_pos h0, if_pos h0]
      simp only [spec_l3Clamp.j0]
      exact clampV _ _ _ hlh
    · rw [if_neg h0, if_neg h0]
      simp only [spec_l3Clamp.j0]
      exact clampV _ _ _ hlh

theorem spec_j1 (k : Nat) (n s : Int) (h1 : Bool) (x1 : Int) (h2 : Bool) (x2 : Int) (hk : 20000 < k) (hn0 : 0 ≤ n) (hn1 : n ≤ 16384) (hx1 : (Lit.int .i64 x1).wf = true) (hx2 : (Lit.int .i64 x2).wf = true) (hs0 : -9223372036854775808 ≤ s) :
    spec_SliceList.j1 k n [] s h1 x1 h2 x2 = some (if s = 0 then ([], 2) else if s < 0 then (steps (bnd n (-1) (n - 1) h2 x2 (-1)) s 20000 (bnd n (-1) (n - 1) h1 x1 (n - 1)), 0) else (steps (bnd n 0 n h2 x2 n) s 20000 (bnd n 0 n h1 x1 0), 0)) := by
  obtain ⟨k, rfl⟩ : ∃ m, k = m + 1 := ⟨k - 1, by omega⟩
  simp only [spec_SliceList.j1]
  by_cases h0 : s = 0
  · rw [if_pos h0, if_pos h0]
  · rw [if_neg h0, if_neg h0]
    by_cases hpos : s > 0
    · rw [if_pos hpos, if_neg (by omega), clamp_some k n h1 x1 0 n 0 (by omega) hn0]
      simp only [Option.bind_some]
      rw [clamp_some k n h2 x2 0 n n (by omega) hn0]
      simp only [Option.bind_some]
      have r1 := bnd_range n 0 n h1 x1 0 hn0 (by omega) hn0
      have r2 := bnd_range n 0 n h2 x2 n hn0 hn0 (by omega)
      have := up_loop s (bnd n 0 n h1 x1 0) (bnd n 0 n h2 x2 n) hpos r1.1 (by omega) _ k (bnd n 0 n h1 x1 0) 0 [] 20000 rfl (by omega) (by omega) (by omega) (by omega) (by omega) (by simp) (by omega) (by simp; omega)
      rw [this, Int.add_zero, List.nil_append]
    · have hw : wrap64 (n - 1) = n - 1 := wrap_in _ (by omega) (by omega)
      rw [if_neg hpos, if_pos (by omega), hw, clamp_some k n h1 x1 (-1) (n - 1) (n - 1) (by omega) (by omega)]
      simp only [Option.bind_some]
      rw [clamp_some k n h2 x2 (-1) (n - 1) (-1) (by omega) (by omega)]
      simp only [Option.bind_some]
      have r1 := bnd_range n (-1) (n - 1) h1 x1 (n - 1) (by omega) (by omega) (by omega)
      have r2 := bnd_range n (-1) (n - 1) h2 x2 (-1) (by omega) (by omega) (by omega)
      have := down_loop s (bnd n (-1) (n - 1) h1 x1 (n - 1)) (bnd n (-1) (n - 1) h2 x2 (-1)) (by omega) hs0 (by omega) r2.1 _ k (bnd n (-1) (n - 1) h1 x1 (n - 1)) 0 [] 20000 rfl (by omega) (by omega) (by omega) (by omega) (by omega) (by simp) (by omega) (by simp; omega)
      rw [this, Int.sub_zero, List.nil_append]

theorem wf_range {x : Int} (h : (Lit.int .i64 x).wf = true) : -9223372036854775808 ≤ x ∧ x ≤ 9223372036854775807 := by
  simp only [Lit.wf, Bool.and_eq_true, decide_eq_true_eq] at h
  exact h

theorem spec_some (k : Nat) (n : Int) (h1 : Bool) (x1 : Int) (h2 : Bool) (x2 : Int) (h3 : Bool) (x3 : Int) (hk : 20001 < k) (hx1 : (Lit.int .i64 x1).wf = true) (hx2 : (Lit.int .i64 x2).wf = true) (hx3 : (Lit.int .i64 x3).wf = true) :
    spec_SliceList.f k n h1 x1 h2 x2 h3 x3 = some (sliceList n h1 x1 h2 x2 h3 x3) := by
  have hr := wf_range hx3
  obtain ⟨k, rfl⟩ : ∃ m, k = m + 1 := ⟨k - 1, by omega⟩
  unfold spec_SliceList.f sliceList
  by_cases h0 : n < 0
  · simp only [Option.bind_some, spec_SliceList.j0, if_pos h0, if_true, if_pos (Or.inl h0)]
  · by_cases h4 : n > 16384
    · have hd : decide (n > 16384) = true := decide_eq_true h4
      simp only [Option.bind_some, spec_SliceList.j0, if_neg h0, hd, if_true]
      rw [if_pos (Or.inr h4)]
    · have hd : decide (n > 16384) = false := decide_eq_false h4
      simp only [Option.bind_some, spec_SliceList.j0, if_neg h0, hd, Bool.false_eq_true, if_false]
      rw [if_neg (show ¬ (n < 0 ∨ n > 16384) by omega)]
      cases h3 with
      | true =>
        simp only [if_true]
        exact spec_j1 k n x3 h1 x1 h2 x2 (by omega) (by omega) (by omega) hx1 hx2 hr.1
      | false =>
        simp only [Bool.false_eq_true, if_false]
        exact spec_j1 k n 1 h1 x1 h2 x2 (by omega) (by omega) (by omega) hx1 hx2 (by omega)


theorem cut_loop (R L : List Int) (E : Int) (hL : L.length ≤ 20000) (hR : ∀ r ∈ R, okR r) (hr : ∀ i ∈ L, 0 ≤ i ∧ i < R.length) (d : Nat) : ∀ (k i : Nat), L.length = i + d → d + 30000 < k →
    spec_TextCut.l0 k R L E ((L.take i).map fun i => R.getD i.toNat 0) (i : Int) = some (⟨(enAll (L.map fun i => R.getD i.toNat 0)).toArray⟩, E) := by
  induction d with
  | zero =>
    intro k i h1 h2
    obtain ⟨k, rfl⟩ : ∃ m, k = m + 1 := ⟨k - 1, by omega⟩
    rw [spec_TextCut.l0, if_neg (by omega), List.take_of_length_le (by omega), text_some]
    · rfl
    · intro r hr'
      obtain ⟨q, hq, rfl⟩ := List.mem_map.1 hr'
      have h4 := hr q hq
      have h5 : q.toNat < R.length := by omega
      rw [List.getD_eq_getElem?_getD, List.getElem?_eq_getElem h5]
      exact hR _ (List.getElem_mem h5)
    · rw [List.length_map]; omega
    · rw [List.length_map]; omega
  | succ d ih =>
    intro k i h1 h2
    obtain ⟨k, rfl⟩ : ∃ m, k = m + 1 := ⟨k - 1, by omega⟩
    have hi : i < L.length := by omega
    have hrd : rd L (i : Int) = L[i] := by simp [rd, hi]
    have hq := hr L[i] (List.getElem_mem hi)
    rw [spec_TextCut.l0, if_pos (by omega), if_pos (by omega), hrd, if_pos (by omega), if_pos (by omega), if_pos (by rw [List.length_map, List.length_take]; omega), wrap_in ((i : Int) + 1) (by omega) (by omega)]
    have hn := ih k (i + 1) (by omega) (by omega)
    rw [List.take_add_one, List.getElem?_eq_getElem hi, List.map_append] at hn
    exact hn

theorem specCut (s : ByteArray) (h1 : Bool) (x1 : Int) (h2 : Bool) (x2 : Int) (h3 : Bool) (x3 : Int) (hx1 : (Lit.int .i64 x1).wf = true) (hx2 : (Lit.int .i64 x2).wf = true) (hx3 : (Lit.int .i64 x3).wf = true) :
    spec_TextCut.f 500000 s h1 x1 h2 x2 h3 x3 = some (cutM s h1 x1 h2 x2 h3 x3) := by
  unfold spec_TextCut.f cutM
  by_cases h : okB s = true
  · obtain ⟨R, hO⟩ := okB_of h
    have hs := okB_size h
    have hRl := enAll_len R hO.ok
    rw [← hO.size] at hRl
    rw [hO.spec hs 500000 (by omega), Option.bind_some]
    dsimp only
    rw [if_pos rfl, spec_some 500000 _ h1 x1 h2 x2 h3 x3 (by omega) hx1 hx2 hx3, Option.bind_some, if_pos h, hO.runes]
    have hr := list_range R.length h1 x1 h2 x2 h3 x3 (by omega)
    exact cut_loop R _ _ hr.1 hO.ok hr.2 (sliceList (R.length : Int) h1 x1 h2 x2 h3 x3).1.length 500000 0 (by omega) (by omega)
  · have hk : spec_l3Runes.f 500000 s = some ([], false) := by
      rw [runes_some s 500000 (by omega), if_neg (fun hh => h ((okB_iff s).2 hh))]
    rw [hk, Option.bind_some]
    dsimp only
    rw [if_neg (by decide), if_neg h]

end Go.Proofs.YtfgiodolgmfdoaaDoor.PT
