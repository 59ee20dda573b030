/- At every two codes the law FnPieces returns true. Plain law; no condition beyond the size of what is handed in. -/
import Derived.Test.YtfgiodolgmfdoaaDoorDrawZ
import Derived.Test.YtfgiodolgmfdoaaDoorFindZ
import Derived.Test.YtfgiodolgmfdoaaDoorPQx5
namespace Go.Proofs.YtfgiodolgmfdoaaDoor.PT
open Go.RowKit Go.Proofs.YtfgiodolgmfdoaaDoorW.PrintWords Go.Proofs.YtfgiodolgmfdoaaDoorW.PrintLast
set_option linter.unusedVariables false
set_option linter.unusedSimpArgs false

theorem okR_pos {r : Int} (h : okR r) : 0 ≤ r := by unfold okR at h; omega

theorem pre_en : ∀ (T R : List Int) (rest : List UInt8), (∀ r ∈ T, okR r) → (∀ r ∈ R, okR r) → enAll R = enAll T ++ rest → ∃ Q, R = T ++ Q ∧ rest = enAll Q
  | [], R, rest, _, _, h => ⟨R, rfl, by simpa [enAll] using h.symm⟩
  | t :: T, [], rest, hT, _, h => by
    have := en_pos t (hT t List.mem_cons_self)
    have h1 := congrArg List.length h
    simp [enAll] at h1
    omega
  | t :: T, r :: R, rest, hT, hR, h => by
    have ht := hT t List.mem_cons_self
    have hr := hR r List.mem_cons_self
    have e1 := decode_en r hr (enAll R)
    have e2 := decode_en t ht (enAll T ++ rest)
    rw [enAll, enAll, List.append_assoc] at h
    rw [h, e2] at e1
    have h1 := congrArg Prod.fst e1
    simp only at h1
    have := okR_pos ht
    have := okR_pos hr
    obtain rfl : r = t := by omega
    obtain ⟨Q, hq, hq2⟩ := pre_en T R rest (fun x hx => hT x (List.mem_cons_of_mem _ hx)) (fun x hx => hR x (List.mem_cons_of_mem _ hx)) (List.append_cancel_left h)
    exact ⟨Q, by rw [hq]; rfl, hq2⟩

theorem occ_take (s sub : List UInt8) (i j : Nat) (hs : sub ≠ []) (h : Lib.occAt (s.take i) sub j = true) : j < i ∧ Lib.occAt s sub j = true := by
  unfold Lib.occAt at h ⊢
  obtain ⟨u, hu⟩ := List.isPrefixOf_iff_prefix.1 h
  have hl := congrArg List.length hu
  rw [List.length_append, List.length_drop, List.length_take] at hl
  have h0 : 0 < sub.length := List.length_pos_iff.2 hs
  refine ⟨by omega, ?_⟩
  rw [List.isPrefixOf_iff_prefix]
  refine ⟨u ++ (s.drop j).drop (i - j), ?_⟩
  rw [← List.append_assoc, hu, List.drop_take, List.take_append_drop]

theorem pieces (t : ByteArray) (T : List Int) (hT : Of t T) (h1 : 1 ≤ t.size) : ∀ (k : Nat) (s : ByteArray) (R : List Int), Of s R → Lib.countB s t = k →
    ∀ x ∈ Lib.splitB t 0 k s, (∃ Q, Of x Q) ∧ Lib.indexB x t = -1
  | 0, s, R, hS, hk, x, hx => by
    rw [Lib.splitB_zero] at hx
    simp at hx
    subst hx
    refine ⟨⟨R, hS⟩, ?_⟩
    rcases Lib.indexB_cases x t with h | ⟨i, h, _⟩
    · exact h
    · have := Lib.countB_hit x t i h1 h
      omega
  | k + 1, s, R, hS, hk, x, hx => by
    have hne : t.data.toList ≠ [] := data_ne t (by omega)
    rcases Lib.index_spec s.data.toList t.data.toList with ⟨h, _⟩ | ⟨i, h, hi, ho, hno⟩
    · have := Lib.countB_miss s t h
      omega
    · have h' : Lib.indexB s t = (i : Int) := h
      have hc := Lib.countB_hit s t i h1 h'
      rw [Lib.splitB_hit t 0 k s i h'] at hx
      -- the place is a code point's
      obtain ⟨q, T', rfl⟩ : ∃ q T', T = q :: T' := by
        cases T with
        | nil => exfalso; have := hT.size; rw [show enAll [] = [] from rfl, List.length_nil] at this; omega
        | cons q T' => exact ⟨q, T', rfl⟩
      obtain ⟨b, tl, he, hb, _⟩ := en_shape q (hT.ok q List.mem_cons_self)
      have ht0 : t.data.toList = b :: (tl ++ enAll T') := by rw [hT.eq, enAll, he]; rfl
      have hocc := ho
      unfold Lib.occAt at hocc
      obtain ⟨u, hu⟩ := List.isPrefixOf_iff_prefix.1 hocc
      have hbi : (enAll R)[i]? = some b := by
        have h1 : (s.data.toList.drop i)[0]? = some b := by rw [← hu, ht0]; rfl
        rw [List.getElem?_drop, Nat.add_zero, hS.eq] at h1
        exact h1
      obtain ⟨m, hm, hcut⟩ := cut_en R i b hS.ok hbi hb
      have hsp : enAll R = enAll (R.take m) ++ enAll (R.drop m) := by rw [← enAll_append, List.take_append_drop]
      have hil : (enAll (R.take m)).length = i := by
        rw [← hcut, List.length_take, Nat.min_eq_left]
        rw [← hS.eq]
        exact hi
      have hdr : enAll (R.drop m) = enAll (q :: T') ++ u := by
        rw [← hT.eq, hu, hS.eq, hsp, List.drop_left' hil]
      obtain ⟨Q, hq, hq2⟩ := pre_en (q :: T') (R.drop m) u hT.ok (fun r hr => hS.ok r (List.mem_of_mem_drop hr)) hdr
      have hokQ : ∀ r ∈ Q, okR r := fun r hr => hS.ok r (List.mem_of_mem_drop (by rw [hq]; exact List.mem_append_right _ hr))
      rcases List.mem_cons.1 hx with hx | hx
      · have hd : x.data.toList = s.data.toList.take i := by
          rw [hx, Nat.add_zero, ext_data s 0 i (by rw [← data_length]; exact hi), List.drop_zero, Nat.sub_zero]
        refine ⟨⟨R.take m, fun r hr => hS.ok r (List.mem_of_mem_take hr), by rw [hd, hS.eq, hcut]⟩, ?_⟩
        show Lib.index x.data.toList t.data.toList = -1
        rw [hd]
        refine Lib.index_none (fun j _ => ?_)
        cases hh : Lib.occAt (s.data.toList.take i) t.data.toList j with
        | false => rfl
        | true =>
          obtain ⟨hj, hj2⟩ := occ_take _ _ _ _ hne hh
          rw [hno j hj] at hj2
          cases hj2
      · refine pieces t (q :: T') hT h1 k (s.extract (i + t.size) s.size) Q ⟨hokQ, ?_⟩ (by omega) x hx
        rw [ext_data s _ _ (Nat.le_refl _), List.take_of_length_le (by rw [List.length_drop, data_length]; exact Nat.le_refl _), ← List.drop_drop, ← hu, ← data_length, List.drop_left, hq2]

theorem find_none (x t : ByteArray) (hx : okB x = true) (h : Lib.indexB x t = -1) : findM x t 0 = -1 := by
  unfold findM
  split
  · obtain ⟨R, hO⟩ := okB_of hx
    have e : restB x (max (0 : Int) 0).toNat = x := by
      unfold restB
      rw [hO.runes]
      show (⟨(enAll (R.drop 0)).toArray⟩ : ByteArray) = x
      rw [List.drop_zero]
      apply ByteArray.ext
      apply Array.ext'
      exact hO.eq.symm
    rw [e, h, if_pos rfl]
  · rfl

/-- Joining the pieces with another text is replacing. -/
theorem join_repl (s old by' : ByteArray) (h : okB s = true) (g : okB old = true) (z : ¬ old.size = 0) : joinA by' (Lib.splitB old 0 (Lib.countB s old) s) = replR s old by' := by
  obtain ⟨R, hO⟩ := okB_of h
  obtain ⟨T, hT⟩ := okB_of g
  have hp := pieces old T hT (by omega) _ s R hO rfl
  have hs := okB_size h
  have hok : ∀ x ∈ Lib.splitB old 0 (Lib.countB s old) s, okB x = true := fun x hx => by
    obtain ⟨Q, hQ⟩ := (hp x hx).1
    exact (okB_iff x).2 ⟨by have := splitB_sizes old 0 _ s x hx; omega, hQ.valid⟩
  unfold joinA replR joinD
  rw [Lib.splitB_data, join_splitK, replaceAll_eq]
  by_cases b : okB by' = true
  · rw [if_pos (show okB by' = true ∧ (∀ x ∈ Lib.splitB old 0 (Lib.countB s old) s, okB x = true) from ⟨b, hok⟩), if_pos (show okB s = true ∧ okB old = true ∧ okB by' = true ∧ ¬ old.size = 0 from ⟨h, g, b, z⟩)]
    have hlen := replaceK_len old.data.toList by'.data.toList (data_ne old z) (Lib.countB s old) s.data.toList rfl
    rw [data_length, data_length, data_length] at hlen
    have hz : ((Lib.replaceK old.data.toList by'.data.toList (Lib.countB s old) s.data.toList).length : Int) = (s.size : Int) + (Lib.countB s old : Int) * ((by'.size : Int) - (old.size : Int)) := by
      have h2 : (((Lib.replaceK old.data.toList by'.data.toList (Lib.countB s old) s.data.toList).length + Lib.countB s old * old.size : Nat) : Int) = ((s.size + Lib.countB s old * by'.size : Nat) : Int) := by rw [hlen]
      rw [Int.natCast_add, Int.natCast_add, Int.natCast_mul, Int.natCast_mul] at h2
      rw [Int.mul_sub]
      omega
    rw [← hz]
    by_cases c : 16384 < (Lib.replaceK old.data.toList by'.data.toList (Lib.countB s old) s.data.toList).length
    · rw [if_pos c, if_pos (by omega)]
    · rw [if_neg c, if_neg (by omega)]
  · rw [if_neg (fun hh => b hh.1), if_neg (fun hh => b hh.2.2.1)]

theorem join_self (s old : ByteArray) (h : okB s = true) (g : okB old = true) (z : ¬ old.size = 0) : joinA old (Lib.splitB old 0 (Lib.countB s old) s) = (s, 0) := by
  rw [join_repl s old old h g z]
  unfold replR
  have hs := okB_size h
  rw [if_pos ⟨h, g, g, z⟩, Int.sub_self, Int.mul_zero, if_neg (by omega), replaceAll_eq, replaceK_self]

theorem drawSplit_some (L : List Int) (h : Rdr L 0) (k : Nat) (hk : 21001 ≤ k) : ∃ s t, spec_DrawTextSplit.f k L = some (s, t) ∧ s.size ≤ 17000 ∧ t.size ≤ 17000 := by
  have tail : ∀ (k : Nat) (s t : ByteArray) (p : Int), Rdr L p → 1 ≤ k → t.size ≤ 17000 → ∃ u v, spec_DrawTextFind.j0 k s t L p = some (s, u, v) ∧ u.size ≤ 17000 := by
    intro k s t p h hk ht
    obtain ⟨k, rfl⟩ : ∃ m, k = m + 1 := ⟨k - 1, by omega⟩
    obtain ⟨b, p1, e, h1⟩ := once_some h 8
    obtain ⟨v, p2, e2, _, _, h2⟩ := below_some h1 12
    rw [spec_DrawTextFind.j0, e, Option.bind_some]
    cases b with
    | true =>
      dsimp only
      rw [if_pos rfl, e2, Option.bind_some]
      exact ⟨_, _, rfl, by decide⟩
    | false =>
      dsimp only
      rw [if_neg (by decide), e2, Option.bind_some]
      exact ⟨_, _, rfl, ht⟩
  unfold spec_DrawTextSplit.f spec_DrawTextFind.f spec_l1Open.f
  rw [Option.bind_some]
  dsimp only
  obtain ⟨s, p1, e1, hs, h1⟩ := drawText_some h k (by omega)
  obtain ⟨q, p2, e2, hq, h2⟩ := piece_some h1
  obtain ⟨b, p3, e3, h3⟩ := once_some h2 4
  rw [e1, Option.bind_some]
  dsimp only
  rw [e2, Option.bind_some]
  dsimp only
  rw [e3, Option.bind_some]
  cases b with
  | true =>
    dsimp only
    obtain ⟨t, p4, e4, ht, h4⟩ := drawText_some h3 k (by omega)
    obtain ⟨u, v, e5, hu⟩ := tail k s t p4 h4 (by omega) ht
    rw [if_pos rfl, e4, Option.bind_some]
    dsimp only
    rw [e5, Option.bind_some]
    exact ⟨s, u, rfl, hs, hu⟩
  | false =>
    dsimp only
    obtain ⟨u, v, e5, hu⟩ := tail k s q p3 h3 (by omega) (by omega)
    rw [if_neg (by decide), e5, Option.bind_some]
    exact ⟨s, u, rfl, hs, hu⟩

theorem drawRepr_some (L : List Int) (h : Rdr L 0) (k : Nat) (hk : 21000 ≤ k) : ∃ s, spec_DrawTextRepr.f k L = some s ∧ s.size ≤ 17000 := by
  unfold spec_DrawTextRepr.f spec_l1Open.f
  rw [Option.bind_some]
  dsimp only
  obtain ⟨s, p, e, hs, _⟩ := drawText_some h k hk
  rw [e, Option.bind_some]
  exact ⟨s, rfl, hs⟩

theorem pieces_loop (s t b : ByteArray) (L : List ByteArray) (hs : s.size ≤ 17000) (ht : t.size ≤ 17000) (hb : b.size ≤ 17000) (hL : L.length ≤ 20000) (hx : ∀ x ∈ L, okB x = true ∧ Lib.indexB x t = -1) (he : joinA b L = replR s t b) (d : Nat) :
    ∀ (k i : Nat), L.length = i + d → d < k → laws_FnPieces.l0 k s t b L (i : Int) = some true := by
  induction d with
  | zero =>
    intro k i h1 h2
    obtain ⟨k, rfl⟩ : ∃ m, k = m + 1 := ⟨k - 1, by omega⟩
    have hR : impl_TextReplace.f s t b = some (replR s t b) := by unfold impl_TextReplace.f; rw [if_pos ⟨by omega, by omega, by omega⟩]
    have hJ : impl_TextJoin.f b L = some (replR s t b) := by
      unfold impl_TextJoin.f
      rw [if_pos ⟨by omega, fun x hx' => by have := okB_size (hx x hx').1; omega, by omega⟩, he]
    rw [laws_FnPieces.l0, if_neg (by omega), hR, Option.bind_some, hJ, Option.bind_some, if_pos rfl, if_pos rfl]
  | succ d ih =>
    intro k i h1 h2
    obtain ⟨k, rfl⟩ : ∃ m, k = m + 1 := ⟨k - 1, by omega⟩
    have hi : i < L.length := by omega
    have hrd : rdOf ByteArray.empty L (i : Int) = L[i] := by simp [rdOf, List.getElem?_eq_getElem hi]
    have hxi := hx _ (List.getElem_mem hi)
    have hF : impl_TextFind.f L[i] t 0 = some (-1) := by
      unfold impl_TextFind.f
      rw [if_pos ⟨by have := okB_size hxi.1; omega, by omega⟩, find_none _ _ hxi.1 hxi.2]
    rw [laws_FnPieces.l0, if_pos (by omega), if_pos (by omega), hrd, hF, Option.bind_some, if_neg (by omega), wrap_in ((i : Int) + 1) (by omega) (by omega)]
    exact ih k (i + 1) (by omega) (by omega)

theorem piecesLaw (l0 l1 : List Int) (g0 : l0.length * 1 ≤ 140737488351232) (w0 : ∀ x ∈ l0, (Lit.int .u8 x).wf = true) (g1 : l1.length * 1 ≤ 140737488351232) (w1 : ∀ x ∈ l1, (Lit.int .u8 x).wf = true) :
    laws_FnPieces.f 600003 l0 l1 = some true := by
  have j0t : ∀ k : Nat, laws_FnPieces.j0 (k + 1) l0 l1 true = some true := fun k => by rw [laws_FnPieces.j0, if_pos rfl]
  unfold laws_FnPieces.f laws_big.f
  rw [Option.bind_some]
  by_cases b0 : (l0.length : Int) > 1048576
  · rw [decide_eq_true b0, if_pos rfl]
    exact j0t _
  rw [decide_eq_false b0, if_neg (by decide), Option.bind_some]
  by_cases b1 : (l1.length : Int) > 1048576
  · rw [decide_eq_true b1]
    exact j0t _
  rw [decide_eq_false b1]
  have R0 := Rdr.mk0 l0 (by omega) w0
  have R1 := Rdr.mk0 l1 (by omega) w1
  obtain ⟨s, t, es, hs, ht⟩ := drawSplit_some l0 R0 600002 (by omega)
  obtain ⟨b, eb, hb⟩ := drawRepr_some l1 R1 600002 (by omega)
  have iS : impl_TextSplitS.f s t = impl_TextSplit.f s t := by unfold impl_TextSplitS.f; rw [if_pos ⟨by omega, by omega⟩]
  have bad : ∀ L e, e = 1 → ∀ k, laws_FnPieces.j1 (k + 1) s t b L e true = some true := fun L e he k => by
    rw [laws_FnPieces.j1, if_pos rfl, he]
    rfl
  rw [show (600003 : Nat) = 600002 + 1 from rfl, laws_FnPieces.j0, if_neg (by decide), es, Option.bind_some]
  dsimp only
  rw [eb, Option.bind_some, iS]
  unfold impl_TextSplit.f
  rw [Option.bind_some, specOk s 600002 (by omega), Option.bind_some]
  by_cases h : okB s = true
  · rw [if_pos h, specOk t 600002 (by omega), Option.bind_some]
    by_cases g : okB t = true
    · rw [if_pos g]
      by_cases z : t.size = 0
      · obtain rfl := empty_of t z
        rw [if_neg (fun hh => hh.2.2 z)]
        rw [show ((⟨#[]⟩ : ByteArray).toList == ([] : List UInt8)) = true by rw [Lib.toList_data]; rfl]
        exact bad _ _ rfl 600001
      · rw [if_pos ⟨h, g, z⟩]
        have hn := ne_empty t z
        have hq : (t.toList == ([] : List UInt8)) = false := by
          rw [beq_eq_false_iff_ne]
          intro e
          rw [e] at hn
          simp at hn
        rw [hq]
        dsimp only
        obtain ⟨R, hO⟩ := okB_of h
        obtain ⟨T, hT⟩ := okB_of g
        have hp := pieces t T hT (by omega) _ s R hO rfl
        have hsz := okB_size h
        have hcl := Lib.countB_le t (by omega) s.size s (Nat.le_refl _)
        have hsl := Lib.splitB_all t (by omega) 0 _ s rfl
        have hok : ∀ x ∈ Lib.splitB t 0 (Lib.countB s t) s, okB x = true ∧ Lib.indexB x t = -1 := fun x hx => by
          obtain ⟨Q, hQ⟩ := (hp x hx).1
          exact ⟨(okB_iff x).2 ⟨by have := splitB_sizes t 0 _ s x hx; omega, hQ.valid⟩, (hp x hx).2⟩
        have hJ : impl_TextJoin.f t (Lib.splitB t 0 (Lib.countB s t) s) = some (s, 0) := by
          unfold impl_TextJoin.f
          rw [if_pos ⟨by omega, fun x hx' => by have := okB_size (hok x hx').1; omega, by omega⟩, join_self s t h g z]
        rw [show (600002 : Nat) = 600001 + 1 from rfl, laws_FnPieces.j1, if_neg (by decide), hJ, Option.bind_some, if_pos rfl, if_pos rfl, bne_self_eq_false, show (600001 : Nat) = 600000 + 1 from rfl, laws_FnPieces.j2, if_neg (by decide)]
        exact pieces_loop s t b _ hs ht hb (by omega) hok (join_repl s t b h g z) (Lib.splitB t 0 (Lib.countB s t) s).length 600000 0 (by omega) (by omega)
    · rw [if_neg g, if_neg (fun hh => g hh.2.1)]
      exact bad _ _ rfl 600001
  · rw [if_neg h, if_neg (fun hh => h hh.1)]
    exact bad _ _ rfl 600001

end Go.Proofs.YtfgiodolgmfdoaaDoor.PT
