/- What a put and a cut do to a dict that is well formed. Plain law; no condition beyond those of the theorems. -/
import Derived.Test.YtohilfkdfcihgaaDictM
import Derived.Test.YtohilfkdfcihgaaGYput
import Derived.Test.YtohilfkdfcihgaaGYcut
set_option linter.unusedVariables false
set_option linter.unusedSimpArgs false
namespace Go.Proofs.Ytohilfkdfcihgaa.DictT
open Go.RowKit Go.Proofs.Ytohilfkdfcihgaa.PDi Go.Proofs.YtohilfkdfcihgaaW.PrintWords Go.Proofs.YtohilfkdfcihgaaW.PrintLast Go.Proofs.YtohilfkdfcihgaaW.PrintMore
theorem find_in {n : Nat} {E : List S62} {T : List Int} (hI : Inv n E E.length T) (h : Int) (hn : 0 < n) (J : Nat) : rd T (path h n J) < E.length := by
  have hr := path_range h n (by omega) J
  exact (hI.hi _ (rd_mem T _ hr.1 (by rw [hI.len]; exact hr.2))).2
theorem tab_append (n : Nat) : ∀ (A B : List S62) (i : Int) (T : List Int), tab n (A ++ B) i T = (tab n A i T).bind fun T' => tab n B (i + (A.length : Int)) T'
  | [], B, i, T => by simp [tab]
  | e :: A, B, i, T => by
    simp only [List.cons_append, tab]
    rw [Option.bind_assoc]
    congr 1
    funext T'
    rw [tab_append n A B (i + 1) T']
    congr 1
    funext T''
    congr 1
    rw [List.length_cons]
    omega
theorem tab_more (n : Nat) (E : List S62) (e : S62) (Z T : List Int) (h : tab n E 0 Z = some T) : tab n (E ++ [e]) 0 Z = lay1 n T E.length e.f0 := by
  rw [tab_append, h]
  simp only [Option.bind_some, tab, Int.zero_add, Option.bind_fun_some]
theorem put2_eq (T : List Int) (E : List S62) (live hash key val : Int) : put2 T E live hash key val = (lay1 T.length T E.length hash).bind fun T' => some (T', E ++ [⟨hash, key, val, false⟩], live + 1, true) := rfl
def alive (e : S62) : Bool := !e.f3
theorem reLay_eq (n : Nat) : ∀ (E : List S62) (T : List Int) (acc : List S62), T.length = n → reLay T acc E = (tab n (E.filter alive) acc.length T).bind fun T' => some (T', acc ++ E.filter alive)
  | [], T, acc, h => by simp [reLay, tab]
  | e :: r, T, acc, h => by
    simp only [reLay]
    by_cases h3 : e.f3 = true
    · rw [if_pos h3, reLay_eq n r T acc h, List.filter_cons_of_neg (by simp [alive, h3])]
    · have h3' : alive e = true := by simpa [alive] using h3
      rw [if_neg h3, List.filter_cons_of_pos h3', h]
      simp only [tab]
      rw [Option.bind_assoc]
      show (lay1 n T acc.length e.f0).bind _ = _
      cases hl : lay1 n T acc.length e.f0 with
      | none => rfl
      | some T' =>
        simp only [Option.bind_some]
        have hl' : T'.length = n := (probe_lay_length _ _ _ _ _ _ _ _ hl).trans h
        rw [reLay_eq n r T' (acc ++ [e]) hl', List.length_append]
        congr 1
        · funext X
          simp
theorem alive_count : ∀ E : List S62, ((E.filter alive).length : Int) = cntI E
  | [] => rfl
  | e :: r => by
    have := alive_count r
    simp only [cntI]
    by_cases h3 : e.f3 = true
    · rw [if_pos h3, List.filter_cons_of_neg (by simp [alive, h3]), this]
      omega
    · rw [if_neg h3, List.filter_cons_of_pos (by simpa [alive] using h3), List.length_cons]
      omega
structure Good (T : List Int) (E : List S62) (live : Int) : Prop where
  pw : ∃ m, 3 ≤ m ∧ m ≤ 16 ∧ T.length = 2 ^ m
  le : (E.length : Int) ≤ 2 * T.length / 3
  h : ∀ e ∈ E, 0 ≤ e.f0 ∧ e.f0 ≤ 18446744073709551615
  t : tab T.length E 0 (List.replicate T.length (-1)) = some T
  inv : Inv T.length E E.length T
  c : cntI E = live
theorem Good.sizes {T : List Int} {E : List S62} {live : Int} (h : Good T E live) : 8 ≤ T.length ∧ T.length ≤ 65536 ∧ E.length < T.length ∧ 0 ≤ live ∧ live ≤ E.length := by
  obtain ⟨m, m3, m16, hm⟩ := h.pw
  have h6 : T.length ≤ 65536 := by
    rw [hm]
    exact Nat.pow_le_pow_right (show 0 < 2 by omega) (show m ≤ 16 by omega)
  have h8 : 8 ≤ T.length := by
    rw [hm]
    exact Nat.pow_le_pow_right (show 0 < 2 by omega) (show 3 ≤ m by omega)
  have hle := h.le
  have := cntI_range E
  rw [h.c] at this
  clear hm
  exact ⟨h8, h6, by omega, this.1, this.2⟩
theorem tab_same (n : Nat) : ∀ (A B : List S62) (i : Int) (T : List Int), A.map S62.f0 = B.map S62.f0 → tab n A i T = tab n B i T
  | [], [], _, _, _ => rfl
  | [], b :: B, _, _, h => by simp at h
  | a :: A, [], _, _, h => by simp at h
  | a :: A, b :: B, i, T, h => by
    simp only [List.map_cons, List.cons.injEq] at h
    simp only [tab]
    rw [h.1]
    congr 1
    funext T'
    exact tab_same n A B (i + 1) T' h.2
theorem f0_at (A B : List S62) (h : A.map S62.f0 = B.map S62.f0) (j : Nat) (hj : j < A.length) : (rd_T62 A j).f0 = (rd_T62 B j).f0 := by
  have hl : A.length = B.length := by
    have := congrArg List.length h
    simpa using this
  have := congrArg (fun l => l[j]?) h
  simp only [List.getElem?_map, List.getElem?_eq_getElem hj, List.getElem?_eq_getElem (show j < B.length by omega), Option.map_some, Option.some.injEq] at this
  simp only [rd_T62, Int.toNat_natCast, List.getD_eq_getElem?_getD, List.getElem?_eq_getElem hj, List.getElem?_eq_getElem (show j < B.length by omega), Option.getD_some]
  exact this
theorem inv_same {n : Nat} {A B : List S62} {T : List Int} (h : A.map S62.f0 = B.map S62.f0) (hI : Inv n A A.length T) : Inv n B B.length T := by
  have hl : B.length = A.length := by
    have := congrArg List.length h
    simpa using this.symm
  refine ⟨hI.len, fun x hx => by rw [hl]; exact hI.hi x hx, by rw [hl]; exact hI.cnt, fun j hj => ?_⟩
  have := hI.at_ j (by omega)
  rw [f0_at A B h j (by omega)] at this
  exact this
theorem map_set_same (E : List S62) (p : Nat) (x : S62) (hp : p < E.length) (h : x.f0 = (rd_T62 E p).f0) : E.map S62.f0 = (E.set p x).map S62.f0 := by
  apply List.ext_getElem?
  intro j
  rw [List.getElem?_map, List.getElem?_map, List.getElem?_set]
  by_cases hj : p = j
  · subst hj
    rw [if_pos rfl, if_pos hp, List.getElem?_eq_getElem hp]
    simp only [Option.map_some]
    rw [h]
    simp [rd_T62, List.getElem?_eq_getElem hp]
  · rw [if_neg hj]
theorem cntI_set : ∀ (E : List S62) (p : Nat) (x : S62), p < E.length → cntI (E.set p x) + (if (rd_T62 E p).f3 = true then 0 else 1) = cntI E + (if x.f3 = true then 0 else 1)
  | [], p, x, h => by simp at h
  | e :: E, 0, x, _ => by
    have : rd_T62 (e :: E) ((0 : Nat) : Int) = e := rfl
    rw [this]
    simp only [List.set_cons_zero, cntI]
    omega
  | e :: E, p + 1, x, h => by
    have : rd_T62 (e :: E) ((p + 1 : Nat) : Int) = rd_T62 E (p : Int) := by simp [rd_T62]
    rw [this]
    have ih := cntI_set E p x (by simpa using h)
    simp only [List.set_cons_succ, cntI]
    omega
theorem cntI_append : ∀ (A B : List S62), cntI (A ++ B) = cntI A + cntI B
  | [], B => by simp [cntI]
  | a :: A, B => by
    have := cntI_append A B
    simp only [List.cons_append, cntI]
    omega
theorem h_set {E : List S62} (hE : ∀ e ∈ E, 0 ≤ e.f0 ∧ e.f0 ≤ 18446744073709551615) (p : Nat) (x : S62) (hx : 0 ≤ x.f0 ∧ x.f0 ≤ 18446744073709551615) : ∀ e ∈ E.set p x, 0 ≤ e.f0 ∧ e.f0 ≤ 18446744073709551615 := by
  intro e he
  rcases List.mem_or_eq_of_mem_set he with h | h
  · exact hE e h
  · rw [h]
    exact hx
theorem Good.set {T : List Int} {E : List S62} {live : Int} (h : Good T E live) (p : Nat) (x : S62) (hp : p < E.length) (h0 : x.f0 = (rd_T62 E p).f0) : Good T (E.set p x) (live + (if x.f3 = true then 0 else 1) - (if (rd_T62 E p).f3 = true then 0 else 1)) := by
  have hms := map_set_same E p x hp h0
  refine ⟨h.pw, by rw [List.length_set]; exact h.le, h_set h.h p x ?_, ?_, inv_same hms h.inv, ?_⟩
  · rw [h0]
    refine h.h _ ?_
    simp only [rd_T62, Int.toNat_natCast, List.getD_eq_getElem?_getD, List.getElem?_eq_getElem hp, Option.getD_some]
    exact List.getElem_mem _
  · rw [← tab_same _ _ _ _ _ hms]
    exact h.t
  · have := cntI_set E p x hp
    rw [h.c] at this
    omega
theorem Good.find {T : List Int} {E : List S62} {live : Int} (h : Good T E live) (hash key : Int) (h0 : 0 ≤ hash) (h1 : hash ≤ 18446744073709551615) :
    ∃ p q : Int, impl_yfind.f T E live hash key = some (p, q) ∧ (∀ k, 100000 ≤ k → spec_l7Find.f k T E live hash key = some (p, q)) ∧ p < E.length ∧ (p < 0 → p = -1) ∧ (0 ≤ p → (rd_T62 E p).f3 = false ∧ (rd_T62 E p).f0 = hash ∧ (rd_T62 E p).f1 = key) ∧ 1 ≤ q := by
  obtain ⟨m, m3, m16, hm⟩ := h.pw
  obtain ⟨s8, s6, sl, l0, l1⟩ := h.sizes
  obtain ⟨J, hJ, hs, hmin, hf1, hf2⟩ := find_both m T.length hm s6 E sl T h.inv live hash key h0 h1
  have hfi := find_in h.inv hash (by clear hm; omega) J
  refine ⟨_, _, hf1, hf2, ?_, ?_, ?_, by clear hm; omega⟩
  · split
    · clear hm
      omega
    · exact hfi
  · intro hp
    split at hp
    · rename_i hc
      rw [if_pos hc]
    · omega
  · intro hp
    split at hp
    · omega
    · rename_i hc
      rw [if_neg hc]
      exact hs.resolve_left hc
theorem good_new : Good (List.replicate 8 (-1)) [] 0 := by
  refine ⟨⟨3, by omega, by omega, rfl⟩, by decide, fun e he => by simp at he, rfl, inv_zero 8 [], rfl⟩
def t3 (e : S62) : Int × Int × Int := (e.f0, e.f1, e.f2)
def liv (E : List S62) : List (Int × Int × Int) := (E.filter alive).map t3
def ky (x : Int × Int × Int) : Int × Int := (x.1, x.2.1)
theorem liv_append (A B : List S62) : liv (A ++ B) = liv A ++ liv B := by
  simp [liv, List.filter_append]
theorem split_at (E : List S62) (p : Nat) (hp : p < E.length) : E = E.take p ++ rd_T62 E p :: E.drop (p + 1) := by
  have := drop_at E p hp
  rw [← this, List.take_append_drop]
theorem set_split (E : List S62) (p : Nat) (x : S62) (hp : p < E.length) : E.set p x = E.take p ++ x :: E.drop (p + 1) := by
  rw [List.set_eq_take_append_cons_drop, if_pos hp]
theorem growO_some (live : Int) (hl0 : 0 ≤ live) (hl1 : live ≤ 3000) (d : Nat) : ∀ (m f : Nat), m + d = 14 → ∃ e, e ≤ d ∧ growO (f + d + 1) ((2 ^ m : Nat) : Int) live = some ((2 ^ (m + e) : Nat) : Int) ∧ 3 * live < ((2 ^ (m + e) : Nat) : Int) := by
  induction d with
  | zero =>
    intro m f h
    obtain rfl : m = 14 := by omega
    have h14 : ((2 ^ 14 : Nat) : Int) = 16384 := rfl
    refine ⟨0, by omega, ?_, ?_⟩
    · simp only [growO, Nat.add_zero]
      rw [if_neg (by rw [h14]; omega)]
    · rw [Nat.add_zero, h14]
      omega
  | succ d ih =>
    intro m f h
    by_cases hc : ((2 ^ m : Nat) : Int) ≤ 3 * live
    · obtain ⟨e, he, hg, hb⟩ := ih (m + 1) f (by omega)
      have e2 : ((2 ^ m : Nat) : Int) * 2 = ((2 ^ (m + 1) : Nat) : Int) := by rw [Nat.pow_succ]; omega
      have e3 : m + (e + 1) = m + 1 + e := by omega
      refine ⟨e + 1, by omega, ?_, by rw [e3]; exact hb⟩
      have e4 : f + (d + 1) + 1 = (f + d + 1) + 1 := by omega
      rw [e4]
      generalize f + d + 1 = q at *
      simp only [growO]
      rw [if_pos hc, e2, hg, e3]
    · refine ⟨0, by omega, ?_, by rw [Nat.add_zero]; omega⟩
      simp only [growO, Nat.add_zero]
      rw [if_neg hc]
theorem Good.look {T : List Int} {E : List S62} {live : Int} (h : Good T E live) (hash key : Int) (h0 : 0 ≤ hash) (h1 : hash ≤ 18446744073709551615) :
    ∃ p q : Int, impl_yfind.f T E live hash key = some (p, q) ∧ 1 ≤ q ∧ ((p = -1 ∧ (hash, key) ∉ (liv E).map ky) ∨ (∃ n : Nat, p = n ∧ n < E.length ∧ alive (rd_T62 E n) = true ∧ (rd_T62 E n).f0 = hash ∧ (rd_T62 E n).f1 = key)) := by
  obtain ⟨m, m3, m16, hm⟩ := h.pw
  obtain ⟨s8, s6, sl, l0, l1⟩ := h.sizes
  obtain ⟨J, hJ, hs, hmin, hf1, _⟩ := find_both m T.length hm s6 E sl T h.inv live hash key h0 h1
  have hfi := find_in h.inv hash (by clear hm; omega) J
  refine ⟨_, _, hf1, by clear hm; omega, ?_⟩
  by_cases hc : rd T (path hash T.length J) < 0
  · rw [if_pos hc]
    refine Or.inl ⟨rfl, fun hmem => ?_⟩
    obtain ⟨x, hx, hxk⟩ := List.mem_map.1 hmem
    obtain ⟨e, he, rfl⟩ := List.mem_map.1 hx
    obtain ⟨heE, hal⟩ := List.mem_filter.1 he
    obtain ⟨j, hj, rfl⟩ := List.getElem_of_mem heE
    have hrj : rd_T62 E (j : Int) = E[j] := by simp [rd_T62, List.getElem?_eq_getElem hj]
    have hP : ∃ j : Nat, j < E.length ∧ (rd_T62 E j).f3 = false ∧ (rd_T62 E j).f0 = hash ∧ (rd_T62 E j).f1 = key := by
      refine ⟨j, hj, ?_⟩
      rw [hrj]
      simp only [ky, t3, Prod.mk.injEq] at hxk
      exact ⟨by simpa [alive] using hal, hxk.1, hxk.2⟩
    obtain ⟨j, ⟨hj, a3, a0, a1⟩, hleast⟩ := least hP
    have hf := (find_own m T.length hm E sl h.h T h.inv j hj a3 J (by rw [a0, a1]; exact hs) (by rw [a0, a1]; exact hmin)).2 (fun i hi ⟨b3, b0, b1⟩ => hleast i hi ⟨by clear hm; omega, b3, b0.trans a0, b1.trans a1⟩)
    rw [a0, if_pos hc] at hf
    clear hm
    omega
  · rw [if_neg hc]
    have h2 := hs.resolve_left hc
    refine Or.inr ⟨(rd T (path hash T.length J)).toNat, by clear hm; omega, by clear hm; omega, ?_⟩
    rw [Int.toNat_of_nonneg (by clear hm; omega)]
    exact ⟨by simpa [alive] using h2.1, h2.2.1, h2.2.2⟩
theorem Good.cutM {T : List Int} {E : List S62} {live : Int} (h : Good T E live) (hash key : Int) (h0 : 0 ≤ hash) (h1 : hash ≤ 18446744073709551615) :
    (ycutM T E live hash key = some (T, E, live, false) ∧ (hash, key) ∉ (liv E).map ky) ∨
    ∃ (A B : List (Int × Int × Int)) (v : Int) (E' : List S62), ycutM T E live hash key = some (T, E', live - 1, true) ∧ Good T E' (live - 1) ∧ liv E = A ++ (hash, key, v) :: B ∧ liv E' = A ++ B := by
  obtain ⟨s8, s6, sl, l0, l1⟩ := h.sizes
  obtain ⟨p, q, hf1, hq, hp⟩ := h.look hash key h0 h1
  rcases hp with ⟨rfl, hno⟩ | ⟨n, rfl, hn, hal, a0, a1⟩
  · refine Or.inl ⟨?_, hno⟩
    unfold ycutM
    rw [if_pos ⟨l0, by omega⟩, hf1]
    rfl
  · have h3 : (rd_T62 E (n : Int)).f3 = false := by simpa [alive] using hal
    have hg := h.set n ⟨hash, 0, 0, true⟩ hn a0.symm
    rw [h3] at hg
    refine Or.inr ⟨liv (E.take n), liv (E.drop (n + 1)), (rd_T62 E (n : Int)).f2, E.set n ⟨hash, 0, 0, true⟩, ?_, by simpa using hg, ?_, ?_⟩
    · unfold ycutM
      rw [if_pos ⟨l0, by omega⟩, hf1]
      simp only [Option.bind_some]
      rw [if_pos (by omega), if_pos (by omega), Int.toNat_natCast]
    · conv => lhs; rw [split_at E n hn]
      rw [liv_append]
      congr 1
      unfold liv
      rw [List.filter_cons_of_pos hal, List.map_cons]
      simp only [t3, a0, a1]
    · rw [set_split E n _ hn, liv_append]
      congr 1
set_option maxHeartbeats 1000000 in
theorem Good.putM {T : List Int} {E : List S62} {live : Int} (h : Good T E live) (hash key val : Int) (h0 : 0 ≤ hash) (h1 : hash ≤ 18446744073709551615) (hlv : live ≤ 3000) :
    (∃ (A B : List (Int × Int × Int)) (v : Int) (E' : List S62), yputM T E live hash key val = some (T, E', live, true) ∧ Good T E' live ∧ liv E = A ++ (hash, key, v) :: B ∧ liv E' = A ++ (hash, key, val) :: B) ∨
    (∃ (T' : List Int) (E' : List S62), yputM T E live hash key val = some (T', E', live + 1, true) ∧ Good T' E' (live + 1) ∧ (hash, key) ∉ (liv E).map ky ∧ liv E' = liv E ++ [(hash, key, val)]) := by
  obtain ⟨m, m3, m16, hm⟩ := h.pw
  obtain ⟨s8, h6, hlt, l0, l1⟩ := h.sizes
  obtain ⟨p, q, hf1, hq, hpp⟩ := h.look hash key h0 h1
  have hle := h.le
  have hH := h.h
  have ht := h.t
  have hI := h.inv
  have hc := h.c
  have hcond : 0 ≤ live ∧ live ≤ 1000000 ∧ E.length ≤ 1000000 ∧ (∀ e ∈ E, 0 ≤ e.f0 ∧ e.f0 ≤ 18446744073709551615) ∧ T.length ≤ 1000000 ∧ 0 < T.length ∧ 0 ≤ hash ∧ hash ≤ 18446744073709551615 := by
    clear hm hpp
    refine ⟨?_, ?_, ?_, hH, ?_, ?_, h0, h1⟩
    · omega
    · omega
    · omega
    · omega
    · omega
  have hY : yputM T E live hash key val = (if 0 ≤ p then (if p < E.length then some (T, E.set p.toNat ⟨(rd_T62 E p).f0, (rd_T62 E p).f1, val, (rd_T62 E p).f3⟩, live, true) else none)
      else if 2 * (T.length : Int) / 3 ≤ E.length then (growO 40 8 live).bind fun N => if 65536 < N then some (T, E, live, false) else (reLay (List.replicate N.toNat (-1)) [] E).bind fun p => put2 p.1 p.2 live hash key val
      else put2 T E live hash key val) := by
    unfold yputM
    rw [if_pos hcond, hf1]
    rfl
  clear hf1
  have he : ∀ F : List S62, (∀ e ∈ F, 0 ≤ e.f0 ∧ e.f0 ≤ 18446744073709551615) → ∀ e ∈ F ++ [(⟨hash, key, val, false⟩ : S62)], 0 ≤ e.f0 ∧ e.f0 ≤ 18446744073709551615 := by
    intro F hF e he
    rcases List.mem_append.1 he with h | h
    · exact hF e h
    · rw [List.mem_singleton.1 h]
      exact ⟨h0, h1⟩
  have hnew : liv [(⟨hash, key, val, false⟩ : S62)] = [(hash, key, val)] := rfl
  rcases hpp with ⟨rfl, hno⟩ | ⟨n, rfl, hn, hal, a0, a1⟩
  · refine Or.inr ?_
    rw [if_neg (by omega)] at hY
    by_cases hbig : 2 * (T.length : Int) / 3 ≤ E.length
    · rw [if_pos hbig] at hY
      obtain ⟨e, he5, hg, h3⟩ := growO_some live l0 hlv 11 3 28 rfl
      have e8 : ((2 ^ 3 : Nat) : Int) = 8 := rfl
      rw [e8] at hg
      rw [show (40 : Nat) = 28 + 11 + 1 from rfl, hg] at hY
      simp only [Option.bind_some] at hY
      have hN14 : 2 ^ (3 + e) ≤ 2 ^ 14 := Nat.pow_le_pow_right (show 0 < 2 by omega) (show 3 + e ≤ 14 by omega)
      have hN8 : 8 ≤ 2 ^ (3 + e) := Nat.pow_le_pow_right (show 0 < 2 by omega) (show 3 ≤ 3 + e by omega)
      have h14 : 2 ^ 14 = 16384 := rfl
      rw [h14] at hN14
      have he16 : 3 + e ≤ 16 := by omega
      generalize hNN : 2 ^ (3 + e) = N at *
      rw [if_neg (by omega), Int.toNat_natCast] at hY
      have hfl : ((E.filter alive).length : Int) = live := (alive_count E).trans hc
      have hcF : cntI (E.filter alive) = live := by
        rw [← alive_count (E.filter alive), List.filter_filter]
        simpa using hfl
      have hlF : liv (E.filter alive) = liv E := by
        unfold liv
        rw [List.filter_filter]
        simp
      have hfH : ∀ x ∈ E.filter alive, 0 ≤ x.f0 ∧ x.f0 ≤ 18446744073709551615 := fun x hx => hH x (List.mem_filter.1 hx).1
      generalize hF : E.filter alive = F at *
      obtain ⟨T1, hT1, hI1'⟩ := tab_ok (3 + e) N hNN.symm (by omega) F (by omega) hfH F.length 0 (by omega) _ (inv_zero N F)
      rw [List.drop_zero] at hT1
      obtain ⟨T2, hT2, hI2'⟩ := tab_ok (3 + e) N hNN.symm (by omega) (F ++ [⟨hash, key, val, false⟩]) (by simp; omega) (he F hfH) (F.length + 1) 0 (by simp) _ (inv_zero N _)
      rw [List.drop_zero] at hT2
      have hr := reLay_eq N E (List.replicate N (-1)) [] (by simp)
      rw [hF] at hr
      have hT1' : tab N F (([] : List S62).length) (List.replicate N (-1)) = some T1 := hT1
      rw [hT1'] at hr
      simp only [Option.bind_some, List.nil_append] at hr
      rw [hr] at hY
      simp only [Option.bind_some] at hY
      have hmore := tab_more N F ⟨hash, key, val, false⟩ _ _ hT1
      have hT2' : tab N (F ++ [⟨hash, key, val, false⟩]) 0 (List.replicate N (-1)) = some T2 := hT2
      rw [hT2'] at hmore
      rw [put2_eq, hI1'.len, ← hmore] at hY
      simp only [Option.bind_some] at hY
      have hl2 : T2.length = N := hI2'.len
      refine ⟨T2, F ++ [⟨hash, key, val, false⟩], hY, ⟨⟨3 + e, by omega, he16, hl2.trans hNN.symm⟩, ?_, he F hfH, ?_, ?_, ?_⟩, hno, ?_⟩
      · rw [hl2, List.length_append]
        simp only [List.length_singleton]
        omega
      · rw [hl2]
        exact hT2'
      · rw [hl2]
        exact hI2'
      · rw [cntI_append, hcF]
        rfl
      · rw [liv_append, hlF, hnew]
    · rw [if_neg hbig] at hY
      obtain ⟨T2, hT2, hI2'⟩ := tab_ok m T.length hm h6 (E ++ [⟨hash, key, val, false⟩]) (by simp; omega) (he E hH) (E.length + 1) 0 (by simp) _ (inv_zero T.length _)
      rw [List.drop_zero] at hT2
      have hT2' : tab T.length (E ++ [⟨hash, key, val, false⟩]) 0 (List.replicate T.length (-1)) = some T2 := hT2
      have hmore := tab_more T.length E ⟨hash, key, val, false⟩ _ _ ht
      rw [hT2'] at hmore
      rw [put2_eq, ← hmore] at hY
      simp only [Option.bind_some] at hY
      have hl2 : T2.length = T.length := hI2'.len
      refine ⟨T2, E ++ [⟨hash, key, val, false⟩], hY, ⟨⟨m, m3, m16, hl2.trans hm⟩, ?_, he E hH, ?_, ?_, ?_⟩, hno, ?_⟩
      · rw [hl2, List.length_append]
        simp only [List.length_singleton]
        clear hm
        omega
      · rw [hl2]
        exact hT2'
      · rw [hl2]
        exact hI2'
      · rw [cntI_append, hc]
        rfl
      · rw [liv_append, hnew]
  · refine Or.inl ⟨liv (E.take n), liv (E.drop (n + 1)), (rd_T62 E (n : Int)).f2, E.set n ⟨(rd_T62 E n).f0, (rd_T62 E n).f1, val, (rd_T62 E n).f3⟩, ?_, ?_, ?_, ?_⟩
    · rw [if_pos (by omega), if_pos (by clear hm; omega), Int.toNat_natCast] at hY
      exact hY
    · have hg := h.set n ⟨(rd_T62 E n).f0, (rd_T62 E n).f1, val, (rd_T62 E n).f3⟩ hn rfl
      have e : live + (if (rd_T62 E n).f3 = true then 0 else 1) - (if (rd_T62 E n).f3 = true then 0 else 1) = live := by clear hm; omega
      simp only [e] at hg
      exact hg
    · conv => lhs; rw [split_at E n hn]
      rw [liv_append]
      congr 1
      unfold liv
      rw [List.filter_cons_of_pos hal, List.map_cons]
      simp only [t3, a0, a1]
    · rw [set_split E n _ hn, liv_append]
      congr 1
      unfold liv
      rw [List.filter_cons_of_pos (by simpa [alive] using hal), List.map_cons]
      simp only [t3, a0, a1]
end Go.Proofs.Ytohilfkdfcihgaa.DictT
