/- The program's GcReach and the reference's come to the same. Plain law; no condition beyond those of the theorems. -/
import Derived.Test.YthpdhahjpjhfiaaRchZ
set_option linter.unusedSimpArgs false
set_option linter.unusedVariables false
namespace Go.Proofs.Ythpdhahjpjhfiaa.PR
open Go.RowKit Go.Proofs.YthpdhahjpjhfiaaW.PrintWords Go.Proofs.YthpdhahjpjhfiaaW.PrintLast Go.Proofs.YthpdhahjpjhfiaaW.PrintMore Go.Proofs.Ythpdhahjpjhfiaa.Dfs

theorem inR_iff {n x : Int} : inR n x = true ↔ 1 ≤ x ∧ x ≤ n := by simp [inR]
theorem edges_take (l : List S39) (i : Nat) (h : i < l.length) : edges (l.take (i + 1)) = edges (l.take i) ++ [(l[i].f1, l[i].f2)] := by
  unfold edges
  rw [List.take_add_one, List.getElem?_eq_getElem h, List.map_append]
  rfl

theorem l3_some (n : Nat) (hn : n ≤ 2000) (l1 : List S39) (hl1 : l1.length ≤ 1048576) (hok : ∀ h ∈ l1, inR (n : Int) h.f1 = true ∧ inR (n : Int) h.f2 = true) (out todo : List Int) (seen : List Bool) : ∀ (d K i : Nat) (rows : List (List Int)), i + d = l1.length → d < K → RowsOf (edges (l1.take i)) n rows →
    ∃ rows', RowsOf (edges l1) n rows' ∧ spec_GcReach.l3 K (n : Int) l1 out seen todo rows (i : Int) = spec_GcReach.l4 (K - d - 1) (n : Int) out seen todo rows'
  | 0, K, i, rows, h1, h2, hr => by
    obtain ⟨K, rfl⟩ : ∃ m, K = m + 1 := ⟨K - 1, by omega⟩
    rw [List.take_of_length_le (by omega)] at hr
    refine ⟨rows, hr, ?_⟩
    rw [spec_GcReach.l3, if_neg (by omega)]
    rfl
  | d + 1, K, i, rows, h1, h2, hr => by
    obtain ⟨K, rfl⟩ : ∃ m, K = m + 1 := ⟨K - 1, by omega⟩
    have hi : i < l1.length := by omega
    have ho := hok _ (List.getElem_mem hi)
    rw [inR_iff, inR_iff] at ho
    have ht := edges_take l1 i hi
    have hrd := rd39 l1 i hi
    obtain ⟨a, ha⟩ : ∃ a, l1[i].f1 = a := ⟨_, rfl⟩
    obtain ⟨b, hb⟩ : ∃ b, l1[i].f2 = b := ⟨_, rfl⟩
    rw [ha, hb] at ho ht
    have hnl := nextOf_length (edges (l1.take i)) a
    have hel : (edges (l1.take i)).length = i := by unfold edges; rw [List.length_map, List.length_take]; omega
    have hrows : RowsOf (edges (l1.take (i + 1))) n (rows.set (a - 1).toNat (nextOf (edges (l1.take i)) a ++ [b])) := by
      refine ⟨by rw [List.length_set]; exact hr.1, fun x hx hxn => ?_⟩
      rw [ht, nextOf_snoc]
      have h3 := hr.2 x hx hxn
      have h4 := hr.1
      unfold rd_L3 at h3 ⊢
      rw [List.getD_eq_getElem?_getD] at h3 ⊢
      rw [List.getElem?_set]
      by_cases hxa : x = a
      · rw [if_pos hxa, if_pos (by rw [hxa]), if_pos (by omega), hxa]
        rfl
      · rw [if_neg hxa, if_neg (by omega)]
        exact h3
    obtain ⟨rows', hr', e'⟩ := l3_some n hn l1 hl1 hok out todo seen d K (i + 1) _ (by omega) (by omega) hrows
    refine ⟨rows', hr', ?_⟩
    rw [spec_GcReach.l3, if_pos (by omega), if_pos (by omega), hrd, ha, hb, wrapIn (show -9223372036854775808 ≤ a - 1 by omega) (show a - 1 ≤ 9223372036854775807 by omega), hr.1, hr.2 a ho.1.1 ho.1.2, if_pos (by omega), if_pos (by omega), if_pos (by omega), wrapS (by omega), e',
      show K + 1 - (d + 1) - 1 = K - d - 1 by omega]

theorem l2_some (n : Nat) (hn : n ≤ 2000) (l1 : List S39) (l2 : List Int) (hl2 : l2.length ≤ 1048576) (hok : ∀ x ∈ l2, inR (n : Int) x = true) (out : List Int) : ∀ (d K i : Nat) (seen : List Bool) (todo : List Int), i + d = l2.length → d < K → seen.length = n → todo.length + unseen seen ≤ 2000 →
    spec_GcReach.l2 K (n : Int) l1 l2 out seen todo (i : Int) = spec_GcReach.l3 (K - d - 1) (n : Int) l1 out (marks (l2.drop i) (seen, todo)).1 (marks (l2.drop i) (seen, todo)).2 (List.replicate n []) 0
  | 0, K, i, seen, todo, h1, h2, hl, ht => by
    obtain ⟨K, rfl⟩ : ∃ m, K = m + 1 := ⟨K - 1, by omega⟩
    rw [spec_GcReach.l2, if_neg (by omega), if_pos (by omega), if_pos (by omega), List.drop_of_length_le (by omega), Int.toNat_natCast]
    rfl
  | d + 1, K, i, seen, todo, h1, h2, hl, ht => by
    obtain ⟨K, rfl⟩ : ∃ m, K = m + 1 := ⟨K - 1, by omega⟩
    have hi : i < l2.length := by omega
    have hy := hok _ (List.getElem_mem hi)
    rw [inR_iff] at hy
    have hrd := rdI l2 i hi
    have hd := List.drop_eq_getElem_cons hi
    obtain ⟨y, hyy⟩ : ∃ y, l2[i] = y := ⟨_, rfl⟩
    rw [hyy] at hrd hy hd
    have e1 : rdOf false seen (y - 1) = hs seen y := rfl
    have e2 : marks (l2.drop i) (seen, todo) = marks (l2.drop (i + 1)) (mark (seen, todo) y) := by rw [hd]; rfl
    rw [spec_GcReach.l2, if_pos (by omega), if_pos (by omega), hrd, wrapIn (show -9223372036854775808 ≤ y - 1 by omega) (show y - 1 ≤ 9223372036854775807 by omega), if_pos (by omega), if_pos (by omega), wrapS (by omega), e1, e2, show K + 1 - (d + 1) - 1 = K - d - 1 by omega]
    cases hh : hs seen y with
    | true =>
      rw [if_pos rfl, show mark (seen, todo) y = (seen, todo) by rw [mark, if_pos hh]]
      exact l2_some n hn l1 l2 hl2 hok out d K (i + 1) seen todo (by omega) (by omega) hl ht
    | false =>
      have hu := unseen_set seen (y - 1).toNat (by
        simp only [hs, List.getD_eq_getElem?_getD] at hh
        rw [List.getElem?_eq_getElem (by omega)] at hh ⊢
        simpa using hh)
      rw [if_neg (by simp), if_pos (by omega), show mark (seen, todo) y = (seen.set (y - 1).toNat true, todo ++ [y]) by rw [mark, if_neg (by rw [hh]; simp)]]
      exact l2_some n hn l1 l2 hl2 hok out d K (i + 1) _ _ (by omega) (by omega) (by simpa using hl) (by rw [List.length_append, List.length_singleton]; omega)

theorem l1_some (n : Int) (l1 : List S39) (l2 : List Int) (hl2 : l2.length ≤ 1048576) (seen : List Bool) : ∀ (d K i : Nat), i + d = l2.length → d < K →
    spec_GcReach.l1 K n l1 l2 [] seen [] (i : Int) = if ∀ x ∈ l2.drop i, inR n x = true then spec_GcReach.l2 (K - d - 1) n l1 l2 [] seen [] 0 else some []
  | 0, K, i, h1, h2 => by
    obtain ⟨K, rfl⟩ : ∃ m, K = m + 1 := ⟨K - 1, by omega⟩
    rw [spec_GcReach.l1, if_neg (by omega), List.drop_of_length_le (by omega), if_pos (by simp)]
    rfl
  | d + 1, K, i, h1, h2 => by
    obtain ⟨K, rfl⟩ : ∃ m, K = m + 1 := ⟨K - 1, by omega⟩
    have hi : i < l2.length := by omega
    rw [spec_GcReach.l1, if_pos (by omega), if_pos (by omega), rdI l2 i hi, wrapS (by omega), l1_some n l1 l2 hl2 seen d K (i + 1) (by omega) (by omega), List.drop_eq_getElem_cons hi, show K + 1 - (d + 1) - 1 = K - d - 1 by omega]
    by_cases h3 : l2[i] < 1
    · rw [if_pos h3, if_neg (fun h => by have := h l2[i] List.mem_cons_self; rw [inR_iff] at this; omega)]
    · rw [if_neg h3]
      by_cases h4 : l2[i] > n
      · rw [if_pos h4, if_neg (fun h => by have := h l2[i] List.mem_cons_self; rw [inR_iff] at this; omega)]
      · rw [if_neg h4]
        have h5 : inR n l2[i] = true := inR_iff.2 ⟨by omega, by omega⟩
        by_cases h6 : ∀ x ∈ l2.drop (i + 1), inR n x = true
        · rw [if_pos h6, if_pos (fun x hx => by
            rcases List.mem_cons.1 hx with rfl | hx
            · exact h5
            · exact h6 x hx)]
        · rw [if_neg h6, if_neg (fun h => h6 (fun x hx => h x (List.mem_cons_of_mem _ hx)))]

theorem l0_some (n : Nat) (hn : n ≤ 2000) (l1 : List S39) (hl1 : l1.length ≤ 1048576) (l2 : List Int) : ∀ (d K i : Nat), i + d = l1.length → d < K →
    spec_GcReach.l0 K (n : Int) l1 l2 [] (i : Int) = if ∀ h ∈ l1.drop i, inR (n : Int) h.f1 = true ∧ inR (n : Int) h.f2 = true then spec_GcReach.l1 (K - d - 1) (n : Int) l1 l2 [] (List.replicate n false) [] 0 else some []
  | 0, K, i, h1, h2 => by
    obtain ⟨K, rfl⟩ : ∃ m, K = m + 1 := ⟨K - 1, by omega⟩
    rw [spec_GcReach.l0, if_neg (by omega), if_pos (by omega), if_pos (by omega), List.drop_of_length_le (by omega), if_pos (by simp), Int.toNat_natCast]
    rfl
  | d + 1, K, i, h1, h2 => by
    obtain ⟨K, rfl⟩ : ∃ m, K = m + 1 := ⟨K - 1, by omega⟩
    have hi : i < l1.length := by omega
    rw [spec_GcReach.l0, if_pos (by omega), if_pos (by omega), rd39 l1 i hi, wrapS (by omega), l0_some n hn l1 hl1 l2 d K (i + 1) (by omega) (by omega), List.drop_eq_getElem_cons hi, show K + 1 - (d + 1) - 1 = K - d - 1 by omega]
    have hno : ∀ P : Prop, (¬ (inR (n : Int) l1[i].f1 = true ∧ inR (n : Int) l1[i].f2 = true)) → ¬ ∀ h ∈ l1[i] :: l1.drop (i + 1), inR (n : Int) h.f1 = true ∧ inR (n : Int) h.f2 = true := fun P h h2 => h (h2 _ List.mem_cons_self)
    by_cases h3 : l1[i].f1 < 1
    · rw [if_pos h3, if_neg (hno True (by rw [inR_iff, inR_iff]; omega))]
    · rw [if_neg h3]
      by_cases h4 : l1[i].f1 > (n : Int)
      · rw [if_pos h4, if_neg (hno True (by rw [inR_iff, inR_iff]; omega))]
      · rw [if_neg h4]
        by_cases h5 : l1[i].f2 < 1
        · rw [if_pos h5, if_neg (hno True (by rw [inR_iff, inR_iff]; omega))]
        · rw [if_neg h5]
          by_cases h6 : l1[i].f2 > (n : Int)
          · rw [if_pos h6, if_neg (hno True (by rw [inR_iff, inR_iff]; omega))]
          · rw [if_neg h6]
            have h7 : inR (n : Int) l1[i].f1 = true ∧ inR (n : Int) l1[i].f2 = true := ⟨inR_iff.2 ⟨by omega, by omega⟩, inR_iff.2 ⟨by omega, by omega⟩⟩
            by_cases h8 : ∀ h ∈ l1.drop (i + 1), inR (n : Int) h.f1 = true ∧ inR (n : Int) h.f2 = true
            · rw [if_pos h8, if_pos (fun x hx => by
                rcases List.mem_cons.1 hx with rfl | hx
                · exact h7
                · exact h8 x hx)]
            · rw [if_neg h8, if_neg (fun h => h8 (fun x hx => h x (List.mem_cons_of_mem _ hx)))]

/-- Both answers, where all is in range: the things that are reached, in order. -/
theorem both_are (n : Nat) (hn : n ≤ 2000) (l1 : List S39) (hl1 : l1.length ≤ 1048576) (l2 : List Int) (hl2 : l2.length ≤ 1048576) (hok1 : ∀ h ∈ l1, inR (n : Int) h.f1 = true ∧ inR (n : Int) h.f2 = true) (hok2 : ∀ x ∈ l2, inR (n : Int) x = true) (K : Nat) (hK : 2200000000 ≤ K) :
    ∃ r, r.length ≤ 2000 ∧ spec_GcReach.l2 K (n : Int) l1 l2 [] (List.replicate n false) [] 0 = some r ∧ (dfs (edges l1) (l2.length + l1.length) (List.replicate (n + 1) false) l2.reverse).map (fun s => outs s n) = some r := by
  have hE := edges_ok hok1
  have hEl : (edges l1).length = l1.length := by unfold edges; rw [List.length_map]
  have hR : ∀ x ∈ l2, 1 ≤ x ∧ x ≤ (n : Int) := fun x hx => inR_iff.1 (hok2 x hx)
  have hge : ∀ x, Rch (edges l1) l2 x → 1 ≤ x := fun x h => by
    cases h with
    | root x hx => exact (hR x hx).1
    | step x y _ he => exact (hE _ he).2.1
  -- the reference
  have hrep : ∀ y, hs (List.replicate n false) y = false := fun y => by
    simp only [hs, List.getD_eq_getElem?_getD, List.getElem?_replicate]
    split <;> rfl
  have hm := marks_is n l2 (List.replicate n false) [] (by simp) hR
  rw [show (0 : Int) = ((0 : Nat) : Int) from rfl, l2_some n hn l1 l2 hl2 hok2 [] l2.length K 0 _ [] (by omega) (by omega) (by simp) (by rw [unseen_rep]; simp; omega), List.drop_zero]
  obtain ⟨h1, h2, h3, h4, h5, h6⟩ := hm
  obtain ⟨rows, hrows, e3⟩ := l3_some n hn l1 hl1 hok1 [] (marks l2 (List.replicate n false, [])).2 (marks l2 (List.replicate n false, [])).1 l1.length (K - l2.length - 1) 0 (List.replicate n []) (by omega) (by omega)
    ⟨by simp, fun x hx hxn => by
      rw [List.take_zero]
      unfold rd_L3
      rw [List.getD_eq_getElem?_getD, List.getElem?_replicate]
      split <;> rfl⟩
  rw [show (0 : Int) = ((0 : Nat) : Int) from rfl, e3]
  have hin : ∀ y, 1 ≤ y → (hs (marks l2 (List.replicate n false, [])).1 y = true ↔ y ∈ l2) := fun y hy => by rw [h3 y hy, hrep]; simp
  obtain ⟨s, e4, g1, g2, g3⟩ := l4_some (edges l1) l2 n hn hE (by omega) rows hrows 1048578 (by omega) 2000 (K - l2.length - 1 - l1.length - 1) _ _
    ⟨h1, fun x hx => hR x ((h5 x hx).resolve_left (by simp)), fun x hx hh => .root x ((hin x hx).1 hh), fun x hx => by
      have h7 := (h5 x hx).resolve_left (by simp)
      exact (hin x (hR x h7).1).2 h7, fun x hx => (hin x (hR x hx).1).2 hx, fun x y hx hh he => .inl ((h6 x hx hh).resolve_left (by rw [hrep]; simp))⟩
    (by rw [h2, unseen_rep]; simp; omega) (by omega) (by omega)
  refine ⟨outs2 s n, Nat.le_trans (outs2_length s n) hn, e4, ?_⟩
  -- the program
  have hE2 : ∀ p ∈ edges l1, 0 ≤ p.1 ∧ 0 ≤ p.2 ∧ p.2.toNat < n + 1 := fun p hp => by have := hE p hp; omega
  have hR2 : ∀ x ∈ l2.reverse, 0 ≤ x ∧ x.toNat < n + 1 := fun x hx => by have := hR x (List.mem_reverse.1 hx); omega
  have hrep2 : ∀ y, has (List.replicate (n + 1) false) y = false := fun y => by
    simp only [has, List.getD_eq_getElem?_getD, List.getElem?_replicate]
    split <;> rfl
  obtain ⟨s', e5⟩ := dfs_ends (edges l1) (n + 1) hE2 (l2.length + l1.length) (List.replicate (n + 1) false) l2.reverse (by simp) hR2 (by
    have : open_ (edges l1) (List.replicate (n + 1) false) ≤ (edges l1).length := List.length_filter_le _ _
    rw [List.length_reverse]
    omega)
  obtain ⟨k1, k2, k3⟩ := dfs_is (edges l1) l2 (n + 1) hE2 (l2.length + l1.length) (List.replicate (n + 1) false) l2.reverse s' (by simp) hR2 (fun x _ h => by rw [hrep2] at h; cases h) (fun x hx => .root x (List.mem_reverse.1 hx))
    (fun x hx => .inr (List.mem_reverse.2 hx)) (fun x y _ h _ => by rw [hrep2] at h; cases h) e5
  rw [e5, Option.map_some]
  congr 1
  unfold outs outs2
  congr 1
  apply List.filter_congr
  intro i hi
  rw [Bool.eq_iff_iff]
  have a1 : Rch (edges l1) l2 ((i : Int) + 1) → has s' ((i : Int) + 1) = true := fun h => by
    generalize ((i : Int) + 1) = x at h
    induction h with
    | root x hx => exact k2 x hx
    | step x y hx he ih => exact k3 x y (by have := hge x hx; omega) ih he
  have a2 : Rch (edges l1) l2 ((i : Int) + 1) → hs s ((i : Int) + 1) = true := fun h => by
    generalize ((i : Int) + 1) = x at h
    induction h with
    | root x hx => exact g2 x hx
    | step x y hx he ih => exact g3 x y (hge x hx) ih he
  exact ⟨fun h => a2 (k1 _ (by omega) h), fun h => a1 (g1 _ (by omega) h)⟩

/-- The two answer alike, at every count, row of edges and row of roots. -/
theorem reach_same (a0 : Int) (l1 : List S39) (hl1 : l1.length ≤ 1048576) (l2 : List Int) (hl2 : l2.length ≤ 1048576) (K : Nat) (hK : 2210000000 ≤ K) :
    ∃ r, r.length ≤ 2000 ∧ spec_GcReach.f K a0 l1 l2 = some r ∧ impl_GcReach.f a0 l1 l2 = some r := by
  unfold spec_GcReach.f impl_GcReach.f
  rw [Option.bind_some]
  obtain ⟨K, rfl⟩ : ∃ m, K = m + 1 := ⟨K - 1, by omega⟩
  by_cases h0 : a0 < 0
  · exact ⟨[], by simp, by rw [if_pos h0]; rfl, by rw [if_pos (.inl h0)]⟩
  · by_cases h1 : a0 > 2000
    · refine ⟨[], by simp, ?_, by rw [if_pos (.inr (by omega))]⟩
      rw [if_neg h0, decide_eq_true h1]
      rfl
    · obtain ⟨n, rfl⟩ : ∃ n : Nat, a0 = n := ⟨a0.toNat, by omega⟩
      rw [if_neg h0, decide_eq_false h1, if_neg (by omega), if_pos (by omega), Int.toNat_natCast, spec_GcReach.j0, if_neg (by simp), show (0 : Int) = ((0 : Nat) : Int) from rfl, l0_some n (by omega) l1 hl1 l2 l1.length K 0 (by omega) (by omega), List.drop_zero]
      by_cases h2 : ∀ h ∈ l1, inR (n : Int) h.f1 = true ∧ inR (n : Int) h.f2 = true
      · have e1 := l1_some (n : Int) l1 l2 hl2 (List.replicate n false) l2.length (K - l1.length - 1) 0 (by omega) (by omega)
        rw [List.drop_zero, show ((0 : Nat) : Int) = 0 from rfl] at e1
        rw [if_pos h2, if_pos h2, e1]
        by_cases h3 : ∀ x ∈ l2, inR (n : Int) x = true
        · rw [if_pos h3, if_pos h3]
          exact both_are n (by omega) l1 hl1 l2 hl2 h2 h3 _ (by omega)
        · rw [if_neg h3, if_neg h3]
          exact ⟨[], by simp, rfl, rfl⟩
      · rw [if_neg h2, if_neg h2]
        exact ⟨[], by simp, rfl, rfl⟩

end Go.Proofs.Ythpdhahjpjhfiaa.PR
