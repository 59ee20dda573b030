/- The reference's put, on a well formed dict, and the program's. Plain law; no condition beyond those of the theorems. -/
import Derived.Test.YtohilfkdfcihgaaKeptA
import Derived.Test.YtohilfkdfcihgaaPDkx3
import Derived.Test.YtohilfkdfcihgaaGPut
set_option linter.unusedVariables false
set_option linter.unusedSimpArgs false
namespace Go.Proofs.Ytohilfkdfcihgaa.DictT
open Go.RowKit Go.Proofs.Ytohilfkdfcihgaa.PDi Go.Proofs.YtohilfkdfcihgaaW.PrintWords Go.Proofs.YtohilfkdfcihgaaW.PrintLast Go.Proofs.YtohilfkdfcihgaaW.PrintMore
theorem spec_copy (T : List Int) (E : List S62) (live : Int) (hT : T.length ≤ 1000000) (hE : E.length ≤ 1000000) : spec_l7Copy.f T E live = some (T, E, live) := by
  unfold spec_l7Copy.f
  simp only [Option.bind_some, List.nil_append, List.length_nil, Nat.zero_add]
  rw [if_pos (by omega), if_pos (by omega)]
def specPut (k : Nat) (l0_0 : List Int) (l0_1 : List (S62)) (a0_2 : Int) (a1 : Int) (a2 : Int) (a3 : Int) : Option (List Int × (List (S62)) × Int × Bool) := (spec_DictOk.f k l0_0 l0_1 a0_2).bind fun t159 => (if t159 = true then ((spec_l7Put.f k l0_0 l0_1 a0_2 a1 a2 a3).bind fun bt160 => (some (bt160.1, bt160.2.1, bt160.2.2.1, bt160.2.2.2))) else (some (([] : List Int), ([] : List (S62)), 0, false)))
theorem put_l1 (hash key val N live : Int) (T : List Int) (E : List S62) (hE : E.length ≤ 1000000) (d : Nat) : ∀ (k i : Nat) (acc : List S62), i + d = E.length → acc.length ≤ i →
    spec_l7Put.l1 (k + d + 1) hash key val N acc i T E live = (spec_l7Table.f k (acc ++ (E.drop i).filter alive ++ [⟨hash, key, val, false⟩]) N).bind fun t => some (t, acc ++ (E.drop i).filter alive ++ [⟨hash, key, val, false⟩], wrap64 (live + 1), true) := by
  induction d with
  | zero =>
    intro k i acc h1 h2
    simp only [spec_l7Put.l1]
    rw [if_neg (by omega), if_pos (by omega), List.drop_of_length_le (by omega)]
    simp
  | succ d ih =>
    intro k i acc h1 h2
    have e : k + (d + 1) + 1 = (k + d + 1) + 1 := by omega
    rw [e]
    have ih0 := ih k (i + 1) acc (by omega) (by omega)
    have ih1 := ih k (i + 1) (acc ++ [rd_T62 E i]) (by omega) (by simp; omega)
    generalize k + d + 1 = q at *
    simp only [spec_l7Put.l1]
    rw [if_pos (by omega), if_pos (by omega), wrap_in ((i : Int) + 1) (by omega) (by omega), drop_at E i (by omega)]
    have e1 : (i : Int) + 1 = ((i + 1 : Nat) : Int) := by omega
    rw [e1]
    by_cases h3 : (rd_T62 E i).f3 = true
    · rw [if_pos h3, ih0, List.filter_cons_of_neg (by simp [alive, h3])]
    · rw [if_neg h3, if_pos (by omega), List.filter_cons_of_pos (by simpa [alive] using h3)]
      show spec_l7Put.l1 q hash key val N (acc ++ [rd_T62 E i]) _ T E live = _
      rw [ih1]
      simp only [List.append_assoc, List.singleton_append, List.cons_append, List.nil_append]
theorem grow_both (hash key val live : Int) (T : List Int) (E : List S62) (hl0 : 0 ≤ live) (hl1 : live ≤ 65536) (d : Nat) : ∀ m : Nat, m + d = 18 →
    ∃ e, e ≤ d ∧ (∀ f, growO (f + d + 1) ((2 ^ m : Nat) : Int) live = some ((2 ^ (m + e) : Nat) : Int)) ∧ 3 * live < ((2 ^ (m + e) : Nat) : Int) ∧
      ∀ k, spec_l7Put.l0 (k + e + 1) hash key val ((2 ^ m : Nat) : Int) T E live = if ((2 ^ (m + e) : Nat) : Int) > 65536 then some (T, E, live, false) else spec_l7Put.l1 k hash key val ((2 ^ (m + e) : Nat) : Int) [] 0 T E live := by
  induction d with
  | zero =>
    intro m h
    obtain rfl : m = 18 := by omega
    have h18 : ((2 ^ 18 : Nat) : Int) = 262144 := rfl
    refine ⟨0, by omega, fun f => ?_, ?_, fun k => ?_⟩
    · simp only [growO, Nat.add_zero]
      rw [if_neg (by rw [h18]; omega)]
    · rw [Nat.add_zero, h18]
      omega
    · simp only [spec_l7Put.l0, Nat.add_zero]
      rw [wrap_in (3 * live) (by omega) (by omega), if_neg (by rw [h18]; omega)]
  | succ d ih =>
    intro m h
    by_cases hc : ((2 ^ m : Nat) : Int) ≤ 3 * live
    · obtain ⟨e, he, hg, hb, hs⟩ := ih (m + 1) (by omega)
      have e2 : ((2 ^ m : Nat) : Int) * 2 = ((2 ^ (m + 1) : Nat) : Int) := by rw [Nat.pow_succ]; omega
      have e3 : m + (e + 1) = m + 1 + e := by omega
      refine ⟨e + 1, by omega, fun f => ?_, ?_, fun k => ?_⟩
      · have := hg f
        have e4 : f + (d + 1) + 1 = (f + d + 1) + 1 := by omega
        rw [e4]
        generalize f + d + 1 = q at *
        simp only [growO]
        rw [if_pos hc, e2, this, e3]
      · rw [e3]
        exact hb
      · have := hs k
        have e4 : k + (e + 1) + 1 = (k + e + 1) + 1 := by omega
        rw [e4]
        generalize k + e + 1 = q at *
        simp only [spec_l7Put.l0]
        rw [wrap_in (3 * live) (by omega) (by omega), if_pos hc, e2, wrap_in _ (Int.le_trans (by decide) (Int.natCast_nonneg _)) (by rw [← e2]; omega), this, e3]
    · refine ⟨0, by omega, fun f => ?_, ?_, fun k => ?_⟩
      · simp only [growO, Nat.add_zero]
        rw [if_neg hc]
      · rw [Nat.add_zero]
        omega
      · simp only [spec_l7Put.l0, Nat.add_zero]
        rw [wrap_in (3 * live) (by omega) (by omega), if_neg hc]
set_option maxHeartbeats 1000000 in
theorem put_both (T : List Int) (E : List S62) (live hash key val : Int) (hT : T.length < 1000000000000) (hE : E.length < 1000000000000) (hH : ∀ e ∈ E, 0 ≤ e.f0 ∧ e.f0 ≤ 18446744073709551615) (h0 : 0 ≤ hash) (h1 : hash ≤ 18446744073709551615) :
    ∃ r : List Int × List S62 × Int × Bool, impl_DictPut.f T E live hash key val = some r ∧ (∀ k, 6000000000 ≤ k → specPut k T E live hash key val = some r) ∧ r.1.length ≤ 1000000 ∧ r.2.1.length ≤ 1000000 := by
  obtain ⟨b, hb1, hb2, hb3⟩ := ok_both T E live hT hE hH
  unfold impl_DictPut.f specPut
  cases b with
  | false =>
    refine ⟨([], [], 0, false), by rw [hb1]; rfl, fun k hk => by rw [hb2 k hk]; rfl, by simp, by simp⟩
  | true =>
    obtain ⟨m, m3, m16, hm, hle, hlt, h6, ht, hI, hgz, hnd, hc⟩ := hb3 rfl
    obtain ⟨J, hJ, hs, hmin, hf1, hf2⟩ := find_both m T.length hm h6 E hlt T hI live hash key h0 h1
    have hcr := cntI_range E
    have hfi := find_in hI hash (by omega) J
    have hcond : 0 ≤ live ∧ live ≤ 1000000 ∧ E.length ≤ 1000000 ∧ (∀ e ∈ E, 0 ≤ e.f0 ∧ e.f0 ≤ 18446744073709551615) ∧ T.length ≤ 1000000 ∧ 0 < T.length ∧ 0 ≤ hash ∧ hash ≤ 18446744073709551615 := by
      refine ⟨?_, ?_, ?_, hH, ?_, ?_, h0, h1⟩
      · omega
      · omega
      · omega
      · omega
      · omega
    have hw1 : wrap64 ((T.length : Int) * 2) = (T.length : Int) * 2 := wrap_in _ (by omega) (by omega)
    have hw2 : wrap64 (Int.tdiv (wrap64 ((T.length : Int) * 2)) 3) = 2 * T.length / 3 := by
      rw [hw1, Int.tdiv_eq_ediv_of_nonneg (by omega), wrap_in _ (by omega) (by omega)]
      omega
    have HW2 := Aside0.mk hw2
    clear hw1 hw2
    have hI1 : ∀ r, yputM T E live hash key val = some r → ((impl_DictOk.f T E live).bind fun ok => if ok = true then (if T.length ≤ 1000000 ∧ E.length ≤ 1000000 then yputM T E live hash key val else none) else some ([], [], 0, false)) = some r := by
      intro r hr
      rw [hb1]
      simp only [Option.bind_some]
      rw [if_pos trivial, if_pos ⟨by omega, by omega⟩, hr]
    have hS1 : ∀ r : List Int × List S62 × Int × Bool, (∀ k, 6000000000 ≤ k → spec_l7Put.f k T E live hash key val = some r) → ∀ k, 6000000000 ≤ k → ((spec_DictOk.f k T E live).bind fun t159 => (if t159 = true then ((spec_l7Put.f k T E live hash key val).bind fun bt160 => (some (bt160.1, bt160.2.1, bt160.2.2.1, bt160.2.2.2))) else (some (([] : List Int), ([] : List (S62)), 0, false)))) = some r := by
      intro r hr k hk
      rw [hb2 k hk]
      simp only [Option.bind_some]
      rw [if_pos trivial, hr k hk]
      rfl
    have hY : ∀ p, p = (if rd T (path hash T.length J) < 0 then -1 else rd T (path hash T.length J)) → yputM T E live hash key val = (if 0 ≤ p then (if p < E.length then some (T, E.set p.toNat ⟨(rd_T62 E p).f0, (rd_T62 E p).f1, val, (rd_T62 E p).f3⟩, live, true) else none)
      else if 2 * (T.length : Int) / 3 ≤ E.length then (growO 40 8 live).bind fun N => if 65536 < N then some (T, E, live, false) else (reLay (List.replicate N.toNat (-1)) [] E).bind fun p => put2 p.1 p.2 live hash key val
      else put2 T E live hash key val) := by
      intro p hp
      unfold yputM
      rw [if_pos hcond, hf1, hp]
      rfl
    have hZ : ∀ p, p = (if rd T (path hash T.length J) < 0 then -1 else rd T (path hash T.length J)) → ∀ k, 6000000000 ≤ k → spec_l7Put.f k T E live hash key val = (if p ≥ 0 then (if 0 ≤ p then (if p < (E.length : Int) then (some (T, (E.set (p : Int).toNat (⟨(rd_T62 E p).f0, (rd_T62 E p).f1, val, (rd_T62 E p).f3⟩ : S62)), live, true)) else (none)) else (none)) else (if (E.length : Int) ≥ 2 * T.length / 3 then (spec_l7Put.l0 k hash key val 8 T E live) else (if E.length < 4398046511104 then ((spec_l7Table.f k (E ++ [(⟨hash, key, val, false⟩ : S62)]) (T.length : Int)).bind fun t290 => (some (t290, E ++ [(⟨hash, key, val, false⟩ : S62)], wrap64 (live + 1), true))) else (none)))) := by
      intro p hp k hk
      unfold spec_l7Put.f
      rw [spec_copy T E live (by omega) (by omega)]
      simp only [Option.bind_some]
      rw [hf2 k (by omega), hp, HW2.out]
      rfl
    clear hf1 hf2 HW2
    have he : ∀ F : List S62, (∀ e ∈ F, 0 ≤ e.f0 ∧ e.f0 ≤ 18446744073709551615) → ∀ e ∈ F ++ [(⟨hash, key, val, false⟩ : S62)], 0 ≤ e.f0 ∧ e.f0 ≤ 18446744073709551615 := by
      intro F hF e he
      rcases List.mem_append.1 he with h | h
      · exact hF e h
      · rw [List.mem_singleton.1 h]
        exact ⟨h0, h1⟩
    by_cases hp : rd T (path hash T.length J) < 0
    · have hY := hY (-1) (by rw [if_pos hp])
      have hZ := hZ (-1) (by rw [if_pos hp])
      rw [if_neg (by omega)] at hY
      by_cases hbig : 2 * (T.length : Int) / 3 ≤ E.length
      · -- the table is made anew
        rw [if_pos hbig] at hY
        obtain ⟨e, he5, hg, h3, hs0⟩ := grow_both hash key val live T E (by omega) (by omega) 15 3 rfl
        have hg := hg 24
        have e8 : ((2 ^ 3 : Nat) : Int) = 8 := rfl
        rw [e8] at hg hs0
        have hZ : ∀ k, 6000000000 ≤ k → spec_l7Put.f k T E live hash key val = if ((2 ^ (3 + e) : Nat) : Int) > 65536 then some (T, E, live, false) else spec_l7Put.l1 (k - e - 1) hash key val ((2 ^ (3 + e) : Nat) : Int) [] 0 T E live := by
          intro k hk
          rw [hZ k hk, if_neg (by omega), if_pos (by omega), ← hs0]
          congr 1
          omega
        rw [show (40 : Nat) = 24 + 15 + 1 from rfl, hg] at hY
        simp only [Option.bind_some] at hY
        by_cases hN : ((2 ^ (3 + e) : Nat) : Int) > 65536
        · rw [if_pos hN] at hY
          exact ⟨_, hI1 _ hY, hS1 _ (fun k hk => by rw [hZ k hk, if_pos hN]), by show T.length ≤ _; omega, by show E.length ≤ _; omega⟩
        · rw [if_neg hN, Int.toNat_natCast] at hY
          have hN8 : 8 ≤ 2 ^ (3 + e) := Nat.pow_le_pow_right (show 0 < 2 by omega) (show 3 ≤ 3 + e by omega)
          generalize hNN : 2 ^ (3 + e) = N at *
          have hfl : ((E.filter alive).length : Int) = live := (alive_count E).trans hc
          have hfH : ∀ x ∈ E.filter alive, 0 ≤ x.f0 ∧ x.f0 ≤ 18446744073709551615 := fun x hx => hH x ((List.mem_filter.1 hx).1)
          generalize hF : E.filter alive = F at *
          obtain ⟨T1, hT1, hI1'⟩ := tab_ok (3 + e) N hNN.symm (by omega) F (by omega) hfH F.length 0 (by omega) _ (inv_zero N F)
          rw [List.drop_zero] at hT1
          obtain ⟨T2, hT2, hI2'⟩ := tab_ok (3 + e) N hNN.symm (by omega) (F ++ [⟨hash, key, val, false⟩]) (by simp; omega) (he F hfH) (F.length + 1) 0 (by simp) _ (inv_zero N _)
          rw [List.drop_zero] at hT2
          have hr := reLay_eq N E (List.replicate N (-1)) [] (by simp)
          rw [hF] at hr
          have hT1' : tab N F (([] : List S62).length) (List.replicate N (-1)) = some T1 := hT1
          rw [hT1'] at hr
          simp only [Option.bind_some, List.nil_append] at hr
          rw [hr] at hY
          simp only [Option.bind_some] at hY
          have hmore := tab_more N F ⟨hash, key, val, false⟩ _ _ hT1
          have hT2' : tab N (F ++ [⟨hash, key, val, false⟩]) 0 (List.replicate N (-1)) = some T2 := hT2
          rw [hT2'] at hmore
          rw [put2_eq, hI1'.len, ← hmore] at hY
          simp only [Option.bind_some] at hY
          refine ⟨_, hI1 _ hY, hS1 _ (fun k hk => ?_), ?_, ?_⟩
          · rw [hZ k hk, if_neg hN]
            have hl := put_l1 hash key val N live T E (by omega) E.length (k - e - 2 - E.length) 0 [] (by omega) (by simp)
            have ek : k - e - 2 - E.length + E.length + 1 = k - e - 1 := by omega
            rw [ek, List.drop_zero, hF] at hl
            have e0 : ((0 : Nat) : Int) = 0 := rfl
            rw [e0] at hl
            rw [hl, List.nil_append, spec_table (3 + e) N hNN.symm (by omega) _ (by simp; omega) (he F hfH) _ (by omega), hT2', wrap_in (live + 1) (by omega) (by omega)]
            rfl
          · show T2.length ≤ _
            rw [hI2'.len]
            omega
          · show (F ++ [_]).length ≤ _
            simp
            omega
      · rw [if_neg hbig] at hY
        obtain ⟨T2, hT2, hI2'⟩ := tab_ok m T.length hm h6 (E ++ [⟨hash, key, val, false⟩]) (by simp; omega) (he E hH) (E.length + 1) 0 (by simp) _ (inv_zero T.length _)
        rw [List.drop_zero] at hT2
        have hT2' : tab T.length (E ++ [⟨hash, key, val, false⟩]) 0 (List.replicate T.length (-1)) = some T2 := hT2
        have hmore := tab_more T.length E ⟨hash, key, val, false⟩ _ _ ht
        rw [hT2'] at hmore
        rw [put2_eq, ← hmore] at hY
        simp only [Option.bind_some] at hY
        refine ⟨_, hI1 _ hY, hS1 _ (fun k hk => ?_), ?_, ?_⟩
        · rw [hZ k hk, if_neg (by omega), if_neg (by omega), if_pos (by omega), spec_table m T.length hm h6 _ (by simp; omega) (he E hH) k (by omega), hT2', wrap_in (live + 1) (by omega) (by omega)]
          rfl
        · show T2.length ≤ _
          rw [hI2'.len]
          omega
        · show (E ++ [_]).length ≤ _
          simp
          omega
    · have hY := hY _ (by rw [if_neg hp])
      have hZ := hZ _ (by rw [if_neg hp])
      rw [if_pos (by omega), if_pos hfi] at hY
      refine ⟨_, hI1 _ hY, hS1 _ (fun k hk => ?_), by show T.length ≤ _; omega, by show (E.set _ _).length ≤ _; rw [List.length_set]; omega⟩
      rw [hZ k hk, if_pos (by omega), if_pos (by omega), if_pos hfi]
end Go.Proofs.Ytohilfkdfcihgaa.DictT
