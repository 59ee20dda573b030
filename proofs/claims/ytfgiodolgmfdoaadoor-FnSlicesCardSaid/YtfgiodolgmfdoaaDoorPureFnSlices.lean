/- At every two codes the law FnSlices returns true. Plain law; no condition beyond the size of what is handed in. -/
import Derived.Test.YtfgiodolgmfdoaaDoorDrawZ
import Derived.Test.YtfgiodolgmfdoaaDoorPQx4
namespace Go.Proofs.YtfgiodolgmfdoaaDoor.PT
open Go.RowKit Go.Proofs.YtfgiodolgmfdoaaDoorW.PrintWords Go.Proofs.YtfgiodolgmfdoaaDoorW.PrintLast
set_option linter.unusedVariables false
set_option linter.unusedSimpArgs false

theorem seg_up (R : List Int) (b : Int) (hb : b ≤ R.length) (d : Nat) : ∀ p : Int, 0 ≤ p → p ≤ b → (b - p).toNat ≤ d →
    (steps b 1 d p).map (fun i => R.getD i.toNat 0) = (R.drop p.toNat).take (b - p).toNat := by
  induction d with
  | zero =>
    intro p h0 h1 h2
    rw [show (b - p).toNat = 0 by omega]
    simp [steps]
  | succ d ih =>
    intro p h0 h1 h2
    simp only [steps]
    rw [if_pos (by omega)]
    by_cases c : p < b
    · have hp : p.toNat < R.length := by omega
      rw [if_pos c, List.drop_eq_getElem_cons hp, show (b - p).toNat = (b - (p + 1)).toNat + 1 by omega, List.take_succ_cons]
      have hg : R.getD p.toNat 0 = R[p.toNat] := by rw [List.getD_eq_getElem?_getD, List.getElem?_eq_getElem hp]; rfl
      by_cases c2 : 1 ≥ b - p
      · rw [if_pos c2, show (b - (p + 1)).toNat = 0 by omega]
        simp only [List.map_cons, List.map_nil, hg, List.take_zero]
      · rw [if_neg c2, List.map_cons, ih (p + 1) (by omega) (by omega) (by omega), hg, show (p + 1).toNat = p.toNat + 1 by omega]
    · rw [if_neg c, show (b - p).toNat = 0 by omega]
      simp

theorem seg_down (R : List Int) (d : Nat) : ∀ p : Int, -1 ≤ p → p < R.length → (p + 1).toNat ≤ d →
    (steps (-1) (-1) d p).map (fun i => R.getD i.toNat 0) = (R.take (p + 1).toNat).reverse := by
  induction d with
  | zero =>
    intro p h0 h1 h2
    rw [show (p + 1).toNat = 0 by omega]
    simp [steps]
  | succ d ih =>
    intro p h0 h1 h2
    simp only [steps]
    rw [if_neg (by omega)]
    by_cases c : p > -1
    · have hp : p.toNat < R.length := by omega
      have hg : R.getD p.toNat 0 = R[p.toNat] := by rw [List.getD_eq_getElem?_getD, List.getElem?_eq_getElem hp]; rfl
      rw [if_pos c, List.map_cons, show p + -1 = p - 1 by omega, ih (p - 1) (by omega) (by omega) (by omega), show (p + 1).toNat = p.toNat + 1 by omega,
        show (p - 1 + 1).toNat = p.toNat by omega, hg, List.take_succ_eq_append_getElem hp, List.reverse_append]
      rfl
    · rw [if_neg c, show (p + 1).toNat = 0 by omega]
      simp

theorem enAll_rev (R : List Int) : (enAll R.reverse).length = (enAll R).length := by
  induction R with
  | nil => rfl
  | cons r R ih =>
    rw [List.reverse_cons, enAll_append, List.length_append, ih]
    simp [enAll]
    omega

theorem bnd_none (n low high x z : Int) : bnd n low high false x z = z := rfl
theorem bnd_has (n low high x z z' : Int) : bnd n low high true x z = bnd n low high true x z' := rfl

theorem Of.same {s : ByteArray} {R : List Int} (h : Of s R) : (⟨(enAll R).toArray⟩ : ByteArray) = s := by
  apply ByteArray.ext
  apply Array.ext'
  exact h.eq.symm
theorem Of.okB {s : ByteArray} {R : List Int} (h : Of s R) (hs : s.size ≤ 16384) : okB s = true := (okB_iff s).2 ⟨hs, h.valid⟩

theorem sub_ok {R S : List Int} (h : ∀ r ∈ R, okR r) (hs : ∀ r ∈ S, r ∈ R) : ∀ r ∈ S, okR r := fun r hr => h r (hs r hr)

theorem slices_cut (s : ByteArray) (h : okB s = true) (K : Int) :
    (cutM s false 0 true K false 0).2 = 0 ∧ (cutM s true K false 0 false 0).2 = 0 ∧ (cutM s false 0 true K false 0).1 ++ (cutM s true K false 0 false 0).1 = s ∧
    (cutM s false 0 false 0 true (-1)).2 = 0 ∧ (cutM s false 0 false 0 true (-1)).1.size ≤ 16384 ∧ (cutM (cutM s false 0 false 0 true (-1)).1 false 0 false 0 true (-1)).2 = 0 ∧ (cutM (cutM s false 0 false 0 true (-1)).1 false 0 false 0 true (-1)).1 = s := by
  obtain ⟨R, hO⟩ := okB_of h
  have hs := okB_size h
  have hRl := enAll_len R hO.ok
  rw [← hO.size] at hRl
  have rev : ∀ (t : ByteArray) (T : List Int), Of t T → t.size ≤ 16384 → cutM t false 0 false 0 true (-1) = (⟨(enAll T.reverse).toArray⟩, 0) := by
    intro t T hT ht
    have hTl := enAll_len T hT.ok
    rw [← hT.size] at hTl
    unfold cutM
    rw [if_pos (hT.okB ht), hT.runes]
    unfold sliceList
    rw [if_neg (by omega)]
    simp only [if_true]
    rw [if_neg (by omega), if_pos (by omega)]
    simp only
    rw [bnd_none, bnd_none, seg_down T 20000 ((T.length : Int) - 1) (by omega) (by omega) (by omega), List.take_of_length_le (by omega)]
  have hr := rev s R hO hs
  have hO2 : Of ⟨(enAll R.reverse).toArray⟩ R.reverse := Of.make _ (fun r h => hO.ok r (List.mem_reverse.1 h))
  have hs2 : (⟨(enAll R.reverse).toArray⟩ : ByteArray).size ≤ 16384 := by rw [hO2.size, enAll_rev, ← hO.size]; exact hs
  have hr2 := rev _ _ hO2 hs2
  rw [hr]
  simp only
  rw [hr2, List.reverse_reverse]
  have hb := bnd_range R.length 0 R.length true K 0 (by omega) (by omega) (by omega)
  have e1 : cutM s false 0 true K false 0 = (⟨(enAll (R.take (bnd R.length 0 R.length true K 0).toNat)).toArray⟩, 0) := by
    unfold cutM
    rw [if_pos h, hO.runes]
    unfold sliceList
    rw [if_neg (by omega)]
    simp only [Bool.false_eq_true, if_false]
    rw [if_neg (by omega), if_neg (by omega)]
    simp only
    rw [bnd_none, bnd_has _ _ _ K (R.length : Int) 0, seg_up R _ hb.2 20000 0 (by omega) hb.1 (by omega)]
    simp
  have e2 : cutM s true K false 0 false 0 = (⟨(enAll (R.drop (bnd R.length 0 R.length true K 0).toNat)).toArray⟩, 0) := by
    unfold cutM
    rw [if_pos h, hO.runes]
    unfold sliceList
    rw [if_neg (by omega)]
    simp only [Bool.false_eq_true, if_false]
    rw [if_neg (by omega), if_neg (by omega)]
    simp only
    rw [bnd_none, seg_up R _ (by omega) 20000 _ hb.1 hb.2 (by omega), List.take_of_length_le (by rw [List.length_drop]; omega)]
  rw [e1, e2]
  refine ⟨by trivial, by trivial, ?_, by trivial, hs2, by trivial, hO.same⟩
  conv => rhs; rw [← hO.same]
  apply ByteArray.ext
  apply Array.ext'
  simp only [ByteArray.data_append, Array.toList_append]
  rw [← enAll_append, List.take_append_drop]

theorem steps_lt (b s : Int) (hs : 0 < s) (d : Nat) : ∀ p, (steps b s d p).Pairwise (fun x y => x < y) := by
  induction d with
  | zero => intro p; simp [steps]
  | succ d ih =>
    intro p
    simp only [steps, if_pos hs]
    split
    · split
      · simp
      · rw [List.pairwise_cons]
        refine ⟨fun x hx => ?_, ih _⟩
        have := steps_up b s hs d _ x hx
        omega
    · simp
theorem steps_gt (b s : Int) (hs : s < 0) (d : Nat) : ∀ p, (steps b s d p).Pairwise (fun x y => y < x) := by
  induction d with
  | zero => intro p; simp [steps]
  | succ d ih =>
    intro p
    simp only [steps, if_neg (show ¬ s > 0 by omega)]
    split
    · rw [List.pairwise_cons]
      refine ⟨fun x hx => ?_, ih _⟩
      have := steps_down b s (by omega) d _ x hx
      omega
    · simp

theorem list_facts (n : Int) (h1 : Bool) (x1 : Int) (h2 : Bool) (x2 : Int) (h3 : Bool) (x3 : Int) :
    ((sliceList n h1 x1 h2 x2 h3 x3).1 ≠ [] → (sliceList n h1 x1 h2 x2 h3 x3).2 = 0) ∧ (∀ i ∈ (sliceList n h1 x1 h2 x2 h3 x3).1, 0 ≤ i ∧ i < n) ∧ (sliceList n h1 x1 h2 x2 h3 x3).1.length ≤ 20000 ∧
    ((sliceList n h1 x1 h2 x2 h3 x3).1.Pairwise (fun x y => x < y) ∨ (sliceList n h1 x1 h2 x2 h3 x3).1.Pairwise (fun x y => y < x)) := by
  by_cases hn : n < 0 ∨ n > 16384
  · unfold sliceList
    rw [if_pos hn]
    simp
  · have hr := list_range n.toNat h1 x1 h2 x2 h3 x3 (by omega)
    rw [Int.toNat_of_nonneg (by omega)] at hr
    refine ⟨?_, hr.2, hr.1, ?_⟩
    all_goals
      unfold sliceList
      rw [if_neg hn]
      simp only
      generalize (if h3 = true then x3 else 1) = s
      by_cases h0 : s = 0
      · rw [if_pos h0]; simp
      rw [if_neg h0]
      by_cases hs : s < 0
      · rw [if_pos hs]
        first | (intro _; rfl) | exact Or.inr (steps_gt _ s hs _ _)
      · rw [if_neg hs]
        first | (intro _; rfl) | exact Or.inl (steps_lt _ s (by omega) _ _)

theorem law_loop (n e : Int) (L : List Int) (he : L ≠ [] → e = 0) (hr : ∀ i ∈ L, 0 ≤ i ∧ i < n) (hl : L.length ≤ 20000) (hp : L.Pairwise (fun x y => x < y) ∨ L.Pairwise (fun x y => y < x)) (d : Nat) : ∀ (k i : Nat), L.length = i + d → d < k →
    laws_FnSlices.l0 k n L e (i : Int) = some true := by
  have hrd : ∀ j (h : j < L.length), rd L (j : Int) = L[j] := fun j h => by simp [rd, h]
  induction d with
  | zero =>
    intro k i h1 h2
    obtain ⟨k, rfl⟩ : ∃ m, k = m + 1 := ⟨k - 1, by omega⟩
    rw [laws_FnSlices.l0, if_neg (by omega)]
  | succ d ih =>
    intro k i h1 h2
    obtain ⟨k, rfl⟩ : ∃ m, k = m + 1 := ⟨k - 1, by omega⟩
    have hi : i < L.length := by omega
    have hm := hr _ (List.getElem_mem hi)
    have hn := ih k (i + 1) (by omega) (by omega)
    rw [laws_FnSlices.l0, if_pos (by omega), if_pos (he (fun h => by rw [h] at hi; simp at hi)), if_pos (by omega), hrd i hi, if_neg (by omega), if_neg (by omega), wrap_in ((i : Int) + 1) (by omega) (by omega)]
    by_cases c : (i : Int) > 0
    · obtain ⟨j, rfl⟩ : ∃ j, i = j + 1 := ⟨i - 1, by omega⟩
      have hj : j < L.length := by omega
      have h0L : 0 < L.length := by omega
      have h1L : 1 < L.length := by omega
      have ew : wrap64 (((j + 1 : Nat) : Int) - 1) = (j : Int) := by
        rw [wrap_in _ (by omega) (by omega)]
        omega
      rw [if_pos c, ew, if_pos (by omega), if_pos (by omega), hrd j hj, show (1 : Int) = ((1 : Nat) : Int) from rfl, hrd 1 h1L, show (0 : Int) = ((0 : Nat) : Int) from rfl, hrd 0 h0L]
      rcases hp with hp | hp
      · have a1 := List.pairwise_iff_getElem.1 hp j (j + 1) hj hi (by omega)
        have a2 := List.pairwise_iff_getElem.1 hp 0 1 h0L h1L (by omega)
        rw [if_neg (by omega), if_pos (by omega), if_pos (by omega), decide_eq_true (show L[j + 1] > L[j] by omega), decide_eq_true (show L[1] > L[0] by omega), if_neg (by decide)]
        exact hn
      · have a1 := List.pairwise_iff_getElem.1 hp j (j + 1) hj hi (by omega)
        have a2 := List.pairwise_iff_getElem.1 hp 0 1 h0L h1L (by omega)
        rw [if_neg (by omega), if_pos (by omega), if_pos (by omega), decide_eq_false (show ¬ L[j + 1] > L[j] by omega), decide_eq_false (show ¬ L[1] > L[0] by omega), if_neg (by decide)]
        exact hn
    · rw [if_neg c]
      exact hn

theorem slicesLaw (l0 l1 : List Int) (g0 : l0.length * 1 ≤ 140737488351232) (w0 : ∀ x ∈ l0, (Lit.int .u8 x).wf = true) (g1 : l1.length * 1 ≤ 140737488351232) (w1 : ∀ x ∈ l1, (Lit.int .u8 x).wf = true) :
    laws_FnSlices.f 600002 l0 l1 = some true := by
  have j0t : ∀ k : Nat, laws_FnSlices.j0 (k + 1) l0 l1 true = some true := fun k => by rw [laws_FnSlices.j0, if_pos rfl]
  unfold laws_FnSlices.f laws_big.f
  rw [Option.bind_some]
  by_cases b0 : (l0.length : Int) > 1048576
  · rw [decide_eq_true b0, if_pos rfl]
    exact j0t _
  rw [decide_eq_false b0, if_neg (by decide), Option.bind_some]
  by_cases b1 : (l1.length : Int) > 1048576
  · rw [decide_eq_true b1]
    exact j0t _
  rw [decide_eq_false b1]
  have R0 := Rdr.mk0 l0 (by omega) w0
  have R1 := Rdr.mk0 l1 (by omega) w1
  obtain ⟨s, es, hs⟩ := drawTextLen_some l0 R0 600001 (by omega)
  have il : impl_TextLen.f s = some (lenB s) := by unfold impl_TextLen.f; rw [if_pos (by omega)]
  have ic : ∀ (t : ByteArray), t.size ≤ 1048576 → ∀ h1 x1 h2 x2 h3 x3, -9223372036854775808 ≤ x3 ∧ x3 ≤ 9223372036854775807 → impl_TextCut.f t h1 x1 h2 x2 h3 x3 = some (cutM t h1 x1 h2 x2 h3 x3) := fun t ht h1 x1 h2 x2 h3 x3 hx => by
    unfold impl_TextCut.f
    rw [if_pos ⟨ht, hx⟩]
  rw [show (600002 : Nat) = 600001 + 1 from rfl, laws_FnSlices.j0, if_neg (by decide), es, Option.bind_some, il, Option.bind_some]
  by_cases ho : okB s = true
  · have hlen : ¬ lenB s < 0 := by unfold lenB; rw [if_pos ho]; omega
    rw [if_neg hlen]
    generalize ((l1.length : Int) % 20) - 10 = K
    obtain ⟨a1, a2, a3, a4, a5, a6, a7⟩ := slices_cut s ho K
    have hsz := okB_size ho
    have hab : (cutM s false 0 true K false 0).1.size + (cutM s true K false 0 false 0).1.size = s.size := by
      rw [← ByteArray.size_append, a3]
    rw [ic s (by omega) _ _ _ _ _ _ (by omega), Option.bind_some, ic s (by omega) _ _ _ _ _ _ (by omega), Option.bind_some, ic s (by omega) _ _ _ _ _ _ (by omega), Option.bind_some, ic _ (by omega) _ _ _ _ _ _ (by omega), Option.bind_some,
      if_pos a1, if_pos a2, if_pos a4, if_pos a6, if_pos (by omega), a3, if_pos rfl, a7]
    obtain ⟨n, b1', x1, b2, x2, b3, x3, ed, hn, wx1, wx2, wx3⟩ := drawSlice_some l1 R1 600000 (by omega)
    rw [show (600001 : Nat) = 600000 + 1 from rfl, laws_FnSlices.j1, bne_self_eq_false, if_neg (by decide), ed, Option.bind_some]
    dsimp only
    have hx3 := wf_range wx3
    have hsl : impl_SliceList.f n b1' x1 b2 x2 b3 x3 = some (sliceList n b1' x1 b2 x2 b3 x3) := by
      unfold impl_SliceList.f
      rw [if_pos hx3]
    obtain ⟨f1, f2, f3, f4⟩ := list_facts n b1' x1 b2 x2 b3 x3
    rw [hsl, Option.bind_some]
    exact law_loop n _ _ f1 f2 f3 f4 (sliceList n b1' x1 b2 x2 b3 x3).1.length 600000 0 (by omega) (by omega)
  · have hf : okB s = false := by simpa using ho
    have hlen : lenB s < 0 := by unfold lenB; rw [if_neg ho]; omega
    rw [if_pos hlen, specOk s 600001 (by omega), hf]
    rfl

end Go.Proofs.YtfgiodolgmfdoaaDoor.PT
