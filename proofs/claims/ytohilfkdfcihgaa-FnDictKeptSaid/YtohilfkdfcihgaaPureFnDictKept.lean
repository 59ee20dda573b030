/- The law FnDictKept, as a Lean function, answers true for all drawn bytes. No condition beyond the statement's. -/
import Derived.Test.YtohilfkdfcihgaaPDkx9
import Derived.Test.YtohilfkdfcihgaaDrawK
set_option linter.unusedVariables false
set_option linter.unusedSimpArgs false
namespace Go.Proofs.Ytohilfkdfcihgaa.Pure
open Go.RowKit Go.Proofs.Ytohilfkdfcihgaa.PDi Go.Proofs.YtohilfkdfcihgaaW.PrintWords Go.Proofs.YtohilfkdfcihgaaW.PrintLast Go.Proofs.Ytohilfkdfcihgaa.DictT Go.Proofs.Ytohilfkdfcihgaa.DictK

theorem same_loop (x : List Int) (hx : x.length ≤ 1000000) : ∀ (d K i : Nat), i + d = x.length → d < K → laws_sameInts.l0 K x x (i : Int) = some true
  | 0, K, i, h1, h2 => by
    obtain ⟨K, rfl⟩ : ∃ m, K = m + 1 := ⟨K - 1, by omega⟩
    rw [laws_sameInts.l0, if_neg (by omega)]
  | d + 1, K, i, h1, h2 => by
    obtain ⟨K, rfl⟩ : ∃ m, K = m + 1 := ⟨K - 1, by omega⟩
    rw [laws_sameInts.l0, if_pos (by omega), if_pos (by omega), if_pos (by omega), if_pos rfl, wrap_in ((i : Int) + 1) (by omega) (by omega), show (i : Int) + 1 = ((i + 1 : Nat) : Int) by omega]
    exact same_loop x hx d K (i + 1) (by omega) (by omega)
theorem same_some (x : List Int) (hx : x.length ≤ 1000000) (K : Nat) (hK : x.length < K) : laws_sameInts.f K x x = some true := by
  unfold laws_sameInts.f
  rw [if_pos rfl, show (0 : Int) = ((0 : Nat) : Int) from rfl]
  exact same_loop x hx x.length K 0 (by omega) hK

theorem fill_loop : ∀ (d K i : Nat) (x : List Int), i + d = x.length → d < K → x.length ≤ 1000 → x.take i = List.replicate i (-1) → impl_yempty.l0 K x (x.length : Int) (i : Int) = some (List.replicate x.length (-1))
  | 0, K, i, x, h1, h2, h3, h4 => by
    obtain ⟨K, rfl⟩ : ∃ m, K = m + 1 := ⟨K - 1, by omega⟩
    rw [impl_yempty.l0, if_neg (by omega)]
    rw [List.take_of_length_le (by omega), show i = x.length by omega] at h4
    rw [h4]
    simp
  | d + 1, K, i, x, h1, h2, h3, h4 => by
    obtain ⟨K, rfl⟩ : ∃ m, K = m + 1 := ⟨K - 1, by omega⟩
    rw [impl_yempty.l0, if_pos (by omega), if_pos (by omega), if_pos (by omega), wrap_in ((i : Int) + 1) (by omega) (by omega), show (i : Int) + 1 = ((i + 1 : Nat) : Int) by omega, Int.toNat_natCast]
    have h5 : (x.set i (-1)).length = x.length := List.length_set
    have h6 : (x.set i (-1)).take (i + 1) = List.replicate (i + 1) (-1) := by
      have e1 : (List.replicate i (-1 : Int) ++ [x[i]]).set i (-1) = List.replicate i (-1) ++ [-1] := by
        rw [List.set_append]
        simp
      rw [List.take_set, List.take_add_one, h4, List.getElem?_eq_getElem (by omega), List.replicate_succ']
      exact e1
    have := fill_loop d K (i + 1) (x.set i (-1)) (by rw [h5]; omega) (by omega) (by rw [h5]; exact h3) h6
    rw [h5] at this
    exact this
theorem impl_new (K : Nat) (hK : 10 ≤ K) : impl_NewDict.f K = some (List.replicate 8 (-1), [], 0) := by
  unfold impl_NewDict.f impl_yempty.f
  rw [if_pos (by omega), if_pos (by decide), Option.bind_some]
  have := fill_loop 8 K 0 (List.replicate 8 0) rfl (by omega) (by decide) rfl
  rw [show (((List.replicate 8 (0 : Int)).length : Nat) : Int) = 8 from rfl, show ((0 : Nat) : Int) = 0 from rfl] at this
  show (impl_yempty.l0 K (List.replicate 8 0) 8 0).bind _ = _
  rw [this]
  rfl

/-- Keys and values, one behind the other. -/
def prs (L : List (Int × Int × Int)) : List Int := L.flatMap (fun x => [x.2.1, x.2.2])
theorem prs_cons (x : Int × Int × Int) (L : List (Int × Int × Int)) : prs (x :: L) = [x.2.1, x.2.2] ++ prs L := rfl
theorem liv_cons (e : S62) (r : List S62) : liv (e :: r) = if e.f3 = true then liv r else t3 e :: liv r := by
  unfold liv
  cases h : e.f3 with
  | true => rw [List.filter_cons_of_neg (by simp [alive, h]), if_pos rfl]
  | false => rw [List.filter_cons_of_pos (by simp [alive, h]), if_neg (by simp), List.map_cons]
theorem wo_cons (hash key : Int) (x : Int × Int × Int) (L : List (Int × Int × Int)) : wo hash key (x :: L) = if ky x = (hash, key) then wo hash key L else x :: wo hash key L := by
  unfold wo
  by_cases h : ky x = (hash, key)
  · rw [List.filter_cons_of_neg (by simp [h]), if_pos h]
  · rw [List.filter_cons_of_pos (by simp [h]), if_neg h]

theorem l1_some (T : List Int) (F : List S62) (live : Int) (rest : List Int) (hF : F.length ≤ 10000) : ∀ (d K i : Nat) (acc : List Int), i + d = F.length → d < K → acc.length ≤ 2 * i →
    laws_FnDictKept.l1 K rest acc (i : Int) T F live = (laws_sameInts.f (K - d - 1) rest (acc ++ prs (liv (F.drop i)))).bind fun t => some t
  | 0, K, i, acc, h1, h2, h3 => by
    obtain ⟨K, rfl⟩ : ∃ m, K = m + 1 := ⟨K - 1, by omega⟩
    rw [laws_FnDictKept.l1, if_neg (by omega), List.drop_of_length_le (by omega)]
    show _ = (laws_sameInts.f K rest (acc ++ [])).bind _
    rw [List.append_nil]
  | d + 1, K, i, acc, h1, h2, h3 => by
    obtain ⟨K, rfl⟩ : ∃ m, K = m + 1 := ⟨K - 1, by omega⟩
    rw [laws_FnDictKept.l1, if_pos (by omega), if_pos (by omega), drop_at F i (by omega), liv_cons, wrap_in ((i : Int) + 1) (by omega) (by omega), show (i : Int) + 1 = ((i + 1 : Nat) : Int) by omega, show K + 1 - (d + 1) - 1 = K - d - 1 by omega]
    by_cases hg : (rd_T62 F (i : Int)).f3 = true
    · rw [if_pos hg, if_pos hg]
      exact l1_some T F live rest hF d K (i + 1) acc (by omega) (by omega) (by omega)
    · rw [if_neg hg, if_neg hg, Option.bind_some, if_pos (by simp only [List.length_cons, List.length_nil]; omega), l1_some T F live rest hF d K (i + 1) _ (by omega) (by omega) (by simp only [List.length_append, List.length_cons, List.length_nil]; omega), prs_cons, List.append_assoc]
      rfl

theorem l0_some (T0 : List Int) (E : List S62) (live0 : Int) (T : List Int) (F : List S62) (live hash key : Int) (hE : E.length ≤ 10000) : ∀ (d K i : Nat) (acc : List Int), i + d = E.length → d < K → acc.length ≤ 2 * i →
    laws_FnDictKept.l0 K hash key acc (i : Int) T0 E live0 T F live = laws_FnDictKept.l1 (K - d - 1) (acc ++ prs (wo hash key (liv (E.drop i)))) [] 0 T F live
  | 0, K, i, acc, h1, h2, h3 => by
    obtain ⟨K, rfl⟩ : ∃ m, K = m + 1 := ⟨K - 1, by omega⟩
    rw [laws_FnDictKept.l0, if_neg (by omega), List.drop_of_length_le (by omega)]
    show _ = laws_FnDictKept.l1 K (acc ++ []) [] 0 T F live
    rw [List.append_nil]
  | d + 1, K, i, acc, h1, h2, h3 => by
    obtain ⟨K, rfl⟩ : ∃ m, K = m + 1 := ⟨K - 1, by omega⟩
    rw [laws_FnDictKept.l0, if_pos (by omega), if_pos (by omega), drop_at E i (by omega), liv_cons, wrap_in ((i : Int) + 1) (by omega) (by omega), show (i : Int) + 1 = ((i + 1 : Nat) : Int) by omega, show K + 1 - (d + 1) - 1 = K - d - 1 by omega]
    have hstep : (((rd_T62 E (i : Int)).f0, (rd_T62 E (i : Int)).f1) ≠ (hash, key)) → wo hash key (t3 (rd_T62 E (i : Int)) :: liv (E.drop (i + 1))) = t3 (rd_T62 E (i : Int)) :: wo hash key (liv (E.drop (i + 1))) := fun h => by rw [wo_cons]; exact if_neg h
    have hlen : ([(rd_T62 E (i : Int)).f1, (rd_T62 E (i : Int)).f2] : List Int).length = 2 := rfl
    by_cases hg : (rd_T62 E (i : Int)).f3 = true
    · rw [if_pos hg, if_pos hg]
      exact l0_some T0 E live0 T F live hash key hE d K (i + 1) acc (by omega) (by omega) (by omega)
    · rw [if_neg hg, if_neg hg]
      by_cases c0 : (rd_T62 E (i : Int)).f0 = hash
      · rw [if_pos c0]
        by_cases c1 : (rd_T62 E (i : Int)).f1 = key
        · rw [if_pos c1, wo_cons, if_pos (by simp [ky, t3, c0, c1])]
          exact l0_some T0 E live0 T F live hash key hE d K (i + 1) acc (by omega) (by omega) (by omega)
        · rw [if_neg c1, Option.bind_some, if_pos (by rw [hlen]; omega), l0_some T0 E live0 T F live hash key hE d K (i + 1) _ (by omega) (by omega) (by rw [List.length_append, hlen]; omega), hstep (by simp [c1]), prs_cons, List.append_assoc]
          rfl
      · rw [if_neg c0, Option.bind_some, if_pos (by rw [hlen]; omega), l0_some T0 E live0 T F live hash key hE d K (i + 1) _ (by omega) (by omega) (by rw [List.length_append, hlen]; omega), hstep (by simp [c0]), prs_cons, List.append_assoc]
        rfl

theorem liv_le (E : List S62) : (liv E).length ≤ E.length := by
  unfold liv
  rw [List.length_map]
  exact List.length_filter_le _ _
theorem prs_length : ∀ L : List (Int × Int × Int), (prs L).length = 2 * L.length
  | [] => rfl
  | x :: L => by rw [prs_cons, List.length_append, prs_length L, List.length_cons]; simp only [List.length_cons, List.length_nil]; omega

theorem find_fine {T : List Int} {E : List S62} {live : Int} (h : Fine T E live) (hash key : Int) : impl_DictFind.f T E live hash key = (impl_yfind.f T E live hash key).bind fun r => some (r.1, r.2) := by
  unfold impl_DictFind.f
  rw [fine_ok h, Option.bind_some, if_pos rfl]

theorem rd62_liv {E : List S62} {n : Nat} (hn : n < E.length) (ha : alive (rd_T62 E (n : Int)) = true) : t3 (rd_T62 E (n : Int)) ∈ liv E :=
  List.mem_map.2 ⟨_, List.mem_filter.2 ⟨rd62_mem (n : Int) (by omega) (by omega), ha⟩, rfl⟩

/-- Behind the put: what was put is found, the cut takes it away, and all else is as it was. -/
theorem kept_some {T : List Int} {E : List S62} {live : Int} (h : Fine T E live) (hE : E.length ≤ 2700) (hash key val : Int) (h0 : 0 ≤ hash) (h1 : hash ≤ 18446744073709551615) (K : Nat) (hK : 6000020000 ≤ K) :
    ∃ (T' : List Int) (E' : List S62) (l' : Int), yputM T E live hash key val = some (T', E', l', true) ∧ Fine T' E' l' ∧ laws_FnDictKept.j0 K hash key val false T E live T' E' l' = some true := by
  obtain ⟨s8, s6, sl, l0, l1⟩ := h.good.sizes
  obtain ⟨T', E', l', e1, hF, hm, hwo, hl, hE', hT'⟩ := h.put hash key val h0 h1 (by omega)
  obtain ⟨K, rfl⟩ : ∃ m, K = m + 3 := ⟨K - 3, by omega⟩
  refine ⟨T', E', l', e1, hF, ?_⟩
  have hin : (hash, key) ∈ (liv E').map ky := List.mem_map.2 ⟨_, hm, rfl⟩
  -- what was put is found
  obtain ⟨p, q, f1, hq, hp⟩ := hF.good.look hash key h0 h1
  obtain ⟨n, rfl, hn, hal, a0, a1⟩ := hp.resolve_left (fun h2 => h2.2 hin)
  have hval : (rd_T62 E' (n : Int)).f2 = val := by
    have e2 := same_of_key hF.nd (rd62_liv hn hal) hm (by simp only [ky, t3, a0, a1])
    exact congrArg (fun x => x.2.2) e2
  rw [laws_FnDictKept.j0, if_neg (by simp), find_fine hF, f1, Option.bind_some, Option.bind_some]
  dsimp only
  rw [if_neg (by omega), if_neg (by omega), if_pos (by omega), if_pos (by omega), hval, bne_self_eq_false]
  -- the cut
  obtain ⟨s8', s6', sl', l0', l1'⟩ := hF.good.sizes
  obtain ⟨F, lf, ok, e3, hFF, hlf, hno, hok, hll, hFE⟩ := hF.cut hash key h0 h1
  obtain rfl : ok = true := hok.2 hin
  obtain ⟨p2, q2, f2, hq2, hp2⟩ := hFF.good.look hash key h0 h1
  have hp3 : p2 = -1 := by
    rcases hp2 with h2 | ⟨n2, rfl, hn2, hal2, b0, b1⟩
    · exact h2.1
    · refine absurd (List.mem_map.2 ⟨_, rd62_liv hn2 hal2, ?_⟩) hno
      simp only [ky, t3, b0, b1]
  have hcut : impl_DictCut.f T' E' l' hash key = some (T', F, lf, true) := by
    unfold impl_DictCut.f
    rw [fine_ok hF, Option.bind_some, if_pos rfl, if_pos ⟨by omega, by omega⟩, e3]
  rw [laws_FnDictKept.j1, if_neg (by simp), hcut, Option.bind_some]
  dsimp only
  rw [find_fine hFF, f2, Option.bind_some, Option.bind_some]
  dsimp only
  rw [if_pos rfl, if_pos hp3, fine_spec hFF (K + 1) (by omega), Option.bind_some, Bool.not_true, laws_FnDictKept.j2, if_neg (by simp)]
  -- the order of all other keys
  have hle := liv_le E
  have hwl : (wo hash key (liv E)).length ≤ (liv E).length := List.length_filter_le _ _
  have hpl := prs_length (wo hash key (liv E))
  rw [show (0 : Int) = ((0 : Nat) : Int) from rfl, l0_some T E live T' F lf hash key (by omega) E.length K 0 [] (by omega) (by omega) (by simp), show (0 : Int) = ((0 : Nat) : Int) from rfl,
    l1_some T' F lf _ (by omega) F.length _ 0 [] (by omega) (by omega) (by simp), List.drop_zero, List.drop_zero, List.nil_append, List.nil_append, hlf, hwo, same_some _ (by omega) _ (by omega)]
  rfl

theorem FnDictKept : laws_FnDictKept.Pure := by
  intro s _ _ hb
  have hb2 : ∀ x ∈ s, 0 ≤ x ∧ x ≤ 255 := fun x hx => wf_u8 (hb x hx)
  refine ⟨6000030000, ?_⟩
  obtain ⟨K, hK⟩ : ∃ K, K = 6000030000 := ⟨_, rfl⟩
  rw [← hK]
  unfold laws_FnDictKept.f laws_big.f
  rw [Option.bind_some]
  by_cases hl : (s.length : Int) > 1048576
  · rw [decide_eq_true hl, if_pos rfl]
  rw [decide_eq_false hl, if_neg (by simp)]
  obtain ⟨T, E, live, hash, key, val, e1, hS, h0, h1⟩ := drawPut_some s hb2 (by omega) K (by omega)
  have hSt := hS.t
  have hSe := hS.e
  obtain ⟨b, f1, f2, f3⟩ := ok_fine (live := live) (show T.length < 1000000000000 by omega) (show E.length < 1000000000000 by omega) hS.h
  rw [e1, Option.bind_some]
  dsimp only
  cases b with
  | false =>
    have hp : impl_DictPut.f T E live hash key val = some ([], [], 0, false) := by unfold impl_DictPut.f; rw [f1]; rfl
    rw [hp, Option.bind_some, f2 K (by omega), Option.bind_some, if_neg (by simp)]
    dsimp only
    rw [if_neg (by simp), if_pos (by simp), impl_new K (by omega), Option.bind_some]
    dsimp only
    rw [fine_ok fine_new]
    rfl
  | true =>
    have hF := f3 rfl
    obtain ⟨T', E', l', e2, hF', e3⟩ := kept_some hF hSe hash key val h0 h1 K (by omega)
    obtain ⟨s8, s6, sl, l0, l1⟩ := hF.good.sizes
    have hp : impl_DictPut.f T E live hash key val = some (T', E', l', true) := by
      unfold impl_DictPut.f
      rw [f1, Option.bind_some, if_pos rfl, if_pos ⟨by omega, by omega⟩, e2]
    rw [hp, Option.bind_some, f2 K (by omega), Option.bind_some, if_pos rfl]
    dsimp only
    rw [if_pos rfl, fine_spec hF' K (by omega), Option.bind_some, if_pos rfl, fine_ok hF', Option.bind_some, Bool.not_true]
    exact e3

end Go.Proofs.Ytohilfkdfcihgaa.Pure
