/- A dict that is run through operations answers as a plain list of pairs does. Plain law; no condition beyond those of the theorems. -/
import Derived.Test.YtohilfkdfcihgaaDictM
import Derived.Test.YtohilfkdfcihgaaGRun
import Derived.Test.YtohilfkdfcihgaaPDmx2
/- A dict that is run through operations answers as a plain list of pairs does. Plain law; no condition beyond those of the theorems. -/
import Derived.Test.YtohilfkdfcihgaaDictM
import Derived.Test.YtohilfkdfcihgaaGRun
import Derived.Test.YtohilfkdfcihgaaPDmx2
set_option linter.unusedVariables false
set_option linter.unusedSimpArgs false
namespace Go.Proofs.Ytohilfkdfcihgaa.DictT
open Go.RowKit Go.Proofs.Ytohilfkdfcihgaa.PDi Go.Proofs.YtohilfkdfcihgaaW.PrintWords Go.Proofs.YtohilfkdfcihgaaW.PrintLast Go.Proofs.YtohilfkdfcihgaaW.PrintMore

/-- The place that a search finds lies in the entries. -/
theorem find_in {n : Nat} {E : List S62} {T : List Int} (hI : Inv n E E.length T) (h : Int) (hn : 0 < n) (J : Nat) : rd T (path h n J) < E.length := by
  have hr := path_range h n (by omega) J
  exact (hI.hi _ (rd_mem T _ hr.1 (by rw [hI.len]; exact hr.2))).2

theorem tab_append (n : Nat) : ∀ (A B : List S62) (i : Int) (T : List Int), tab n (A ++ B) i T = (tab n A i T).bind fun T' => tab n B (i + (A.length : Int)) T'
  | [], B, i, T => by simp [tab]
  | e :: A, B, i, T => by
    simp only [List.cons_append, tab]
    rw [Option.bind_assoc]
    congr 1
    funext T'
    rw [tab_append n A B (i + 1) T']
    congr 1
    funext T''
    congr 1
    rw [List.length_cons]
    omega

theorem tab_more (n : Nat) (E : List S62) (e : S62) (Z T : List Int) (h : tab n E 0 Z = some T) : tab n (E ++ [e]) 0 Z = lay1 n T E.length e.f0 := by
  rw [tab_append, h]
  simp only [Option.bind_some, tab, Int.zero_add, Option.bind_fun_some]

theorem put2_eq (T : List Int) (E : List S62) (live hash key val : Int) : put2 T E live hash key val = (lay1 T.length T E.length hash).bind fun T' => some (T', E ++ [⟨hash, key, val, false⟩], live + 1, true) := rfl

def alive (e : S62) : Bool := !e.f3

theorem reLay_eq (n : Nat) : ∀ (E : List S62) (T : List Int) (acc : List S62), T.length = n → reLay T acc E = (tab n (E.filter alive) acc.length T).bind fun T' => some (T', acc ++ E.filter alive)
  | [], T, acc, h => by simp [reLay, tab]
  | e :: r, T, acc, h => by
    simp only [reLay]
    by_cases h3 : e.f3 = true
    · rw [if_pos h3, reLay_eq n r T acc h, List.filter_cons_of_neg (by simp [alive, h3])]
    · have h3' : alive e = true := by simpa [alive] using h3
      rw [if_neg h3, List.filter_cons_of_pos h3', h]
      simp only [tab]
      rw [Option.bind_assoc]
      show (lay1 n T acc.length e.f0).bind _ = _
      cases hl : lay1 n T acc.length e.f0 with
      | none => rfl
      | some T' =>
        simp only [Option.bind_some]
        have hl' : T'.length = n := (probe_lay_length _ _ _ _ _ _ _ _ hl).trans h
        rw [reLay_eq n r T' (acc ++ [e]) hl', List.length_append]
        congr 1
        · funext X
          simp

theorem alive_count : ∀ E : List S62, ((E.filter alive).length : Int) = cntI E
  | [] => rfl
  | e :: r => by
    have := alive_count r
    simp only [cntI]
    by_cases h3 : e.f3 = true
    · rw [if_pos h3, List.filter_cons_of_neg (by simp [alive, h3]), this]
      omega
    · rw [if_neg h3, List.filter_cons_of_pos (by simpa [alive] using h3), List.length_cons]
      omega

/-! ### A dict in good order -/
structure Good (T : List Int) (E : List S62) (live : Int) : Prop where
  pw : ∃ m, 3 ≤ m ∧ m ≤ 16 ∧ T.length = 2 ^ m
  le : (E.length : Int) ≤ 2 * T.length / 3
  h : ∀ e ∈ E, 0 ≤ e.f0 ∧ e.f0 ≤ 18446744073709551615
  t : tab T.length E 0 (List.replicate T.length (-1)) = some T
  inv : Inv T.length E E.length T
  c : cntI E = live

theorem Good.sizes {T : List Int} {E : List S62} {live : Int} (h : Good T E live) : 8 ≤ T.length ∧ T.length ≤ 65536 ∧ E.length < T.length ∧ 0 ≤ live ∧ live ≤ E.length := by
  obtain ⟨m, m3, m16, hm⟩ := h.pw
  have h6 : T.length ≤ 65536 := by
    rw [hm]
    exact Nat.pow_le_pow_right (show 0 < 2 by omega) (show m ≤ 16 by omega)
  have h8 : 8 ≤ T.length := by
    rw [hm]
    exact Nat.pow_le_pow_right (show 0 < 2 by omega) (show 3 ≤ m by omega)
  have hle := h.le
  have := cntI_range E
  rw [h.c] at this
  clear hm
  exact ⟨h8, h6, by omega, this.1, this.2⟩

theorem tab_same (n : Nat) : ∀ (A B : List S62) (i : Int) (T : List Int), A.map S62.f0 = B.map S62.f0 → tab n A i T = tab n B i T
  | [], [], _, _, _ => rfl
  | [], b :: B, _, _, h => by simp at h
  | a :: A, [], _, _, h => by simp at h
  | a :: A, b :: B, i, T, h => by
    simp only [List.map_cons, List.cons.injEq] at h
    simp only [tab]
    rw [h.1]
    congr 1
    funext T'
    exact tab_same n A B (i + 1) T' h.2

theorem f0_at (A B : List S62) (h : A.map S62.f0 = B.map S62.f0) (j : Nat) (hj : j < A.length) : (rd_T62 A j).f0 = (rd_T62 B j).f0 := by
  have hl : A.length = B.length := by
    have := congrArg List.length h
    simpa using this
  have := congrArg (fun l => l[j]?) h
  simp only [List.getElem?_map, List.getElem?_eq_getElem hj, List.getElem?_eq_getElem (show j < B.length by omega), Option.map_some, Option.some.injEq] at this
  simp only [rd_T62, Int.toNat_natCast, List.getD_eq_getElem?_getD, List.getElem?_eq_getElem hj, List.getElem?_eq_getElem (show j < B.length by omega), Option.getD_some]
  exact this

theorem inv_same {n : Nat} {A B : List S62} {T : List Int} (h : A.map S62.f0 = B.map S62.f0) (hI : Inv n A A.length T) : Inv n B B.length T := by
  have hl : B.length = A.length := by
    have := congrArg List.length h
    simpa using this.symm
  refine ⟨hI.len, fun x hx => by rw [hl]; exact hI.hi x hx, by rw [hl]; exact hI.cnt, fun j hj => ?_⟩
  have := hI.at_ j (by omega)
  rw [f0_at A B h j (by omega)] at this
  exact this

theorem map_set_same (E : List S62) (p : Nat) (x : S62) (hp : p < E.length) (h : x.f0 = (rd_T62 E p).f0) : E.map S62.f0 = (E.set p x).map S62.f0 := by
  apply List.ext_getElem?
  intro j
  rw [List.getElem?_map, List.getElem?_map, List.getElem?_set]
  by_cases hj : p = j
  · subst hj
    rw [if_pos rfl, if_pos hp, List.getElem?_eq_getElem hp]
    simp only [Option.map_some]
    rw [h]
    simp [rd_T62, List.getElem?_eq_getElem hp]
  · rw [if_neg hj]

theorem cntI_set : ∀ (E : List S62) (p : Nat) (x : S62), p < E.length → cntI (E.set p x) + (if (rd_T62 E p).f3 = true then 0 else 1) = cntI E + (if x.f3 = true then 0 else 1)
  | [], p, x, h => by simp at h
  | e :: E, 0, x, _ => by
    have : rd_T62 (e :: E) ((0 : Nat) : Int) = e := rfl
    rw [this]
    simp only [List.set_cons_zero, cntI]
    omega
  | e :: E, p + 1, x, h => by
    have : rd_T62 (e :: E) ((p + 1 : Nat) : Int) = rd_T62 E (p : Int) := by simp [rd_T62]
    rw [this]
    have ih := cntI_set E p x (by simpa using h)
    simp only [List.set_cons_succ, cntI]
    omega

theorem cntI_append : ∀ (A B : List S62), cntI (A ++ B) = cntI A + cntI B
  | [], B => by simp [cntI]
  | a :: A, B => by
    have := cntI_append A B
    simp only [List.cons_append, cntI]
    omega

theorem h_set {E : List S62} (hE : ∀ e ∈ E, 0 ≤ e.f0 ∧ e.f0 ≤ 18446744073709551615) (p : Nat) (x : S62) (hx : 0 ≤ x.f0 ∧ x.f0 ≤ 18446744073709551615) : ∀ e ∈ E.set p x, 0 ≤ e.f0 ∧ e.f0 ≤ 18446744073709551615 := by
  intro e he
  rcases List.mem_or_eq_of_mem_set he with h | h
  · exact hE e h
  · rw [h]
    exact hx

theorem Good.set {T : List Int} {E : List S62} {live : Int} (h : Good T E live) (p : Nat) (x : S62) (hp : p < E.length) (h0 : x.f0 = (rd_T62 E p).f0) : Good T (E.set p x) (live + (if x.f3 = true then 0 else 1) - (if (rd_T62 E p).f3 = true then 0 else 1)) := by
  have hms := map_set_same E p x hp h0
  refine ⟨h.pw, by rw [List.length_set]; exact h.le, h_set h.h p x ?_, ?_, inv_same hms h.inv, ?_⟩
  · rw [h0]
    refine h.h _ ?_
    simp only [rd_T62, Int.toNat_natCast, List.getD_eq_getElem?_getD, List.getElem?_eq_getElem hp, Option.getD_some]
    exact List.getElem_mem _
  · rw [← tab_same _ _ _ _ _ hms]
    exact h.t
  · have := cntI_set E p x hp
    rw [h.c] at this
    omega

theorem Good.find {T : List Int} {E : List S62} {live : Int} (h : Good T E live) (hash key : Int) (h0 : 0 ≤ hash) (h1 : hash ≤ 18446744073709551615) :
    ∃ p q : Int, impl_yfind.f T E live hash key = some (p, q) ∧ (∀ k, 100000 ≤ k → spec_l7Find.f k T E live hash key = some (p, q)) ∧ p < E.length ∧ (p < 0 → p = -1) ∧ (0 ≤ p → (rd_T62 E p).f3 = false ∧ (rd_T62 E p).f0 = hash ∧ (rd_T62 E p).f1 = key) ∧ 1 ≤ q := by
  obtain ⟨m, m3, m16, hm⟩ := h.pw
  obtain ⟨s8, s6, sl, l0, l1⟩ := h.sizes
  obtain ⟨J, hJ, hs, hmin, hf1, hf2⟩ := find_both m T.length hm s6 E sl T h.inv live hash key h0 h1
  have hfi := find_in h.inv hash (by clear hm; omega) J
  refine ⟨_, _, hf1, hf2, ?_, ?_, ?_, by clear hm; omega⟩
  · split
    · clear hm
      omega
    · exact hfi
  · intro hp
    split at hp
    · rename_i hc
      rw [if_pos hc]
    · omega
  · intro hp
    split at hp
    · omega
    · rename_i hc
      rw [if_neg hc]
      exact hs.resolve_left hc

theorem good_new : Good (List.replicate 8 (-1)) [] 0 := by
  refine ⟨⟨3, by omega, by omega, rfl⟩, by decide, fun e he => by simp at he, rfl, inv_zero 8 [], rfl⟩

/-! ### A put and a cut, by what is alive -/
def t3 (e : S62) : Int × Int × Int := (e.f0, e.f1, e.f2)
def liv (E : List S62) : List (Int × Int × Int) := (E.filter alive).map t3
def o3 (o : S37) : Int × Int × Int := (o.f1, o.f2, o.f3)
def ky (x : Int × Int × Int) : Int × Int := (x.1, x.2.1)

theorem liv_append (A B : List S62) : liv (A ++ B) = liv A ++ liv B := by
  simp [liv, List.filter_append]

theorem liv_length (E : List S62) : ((liv E).length : Int) = cntI E := by
  unfold liv
  rw [List.length_map]
  exact alive_count E

theorem split_at (E : List S62) (p : Nat) (hp : p < E.length) : E = E.take p ++ rd_T62 E p :: E.drop (p + 1) := by
  have := drop_at E p hp
  rw [← this, List.take_append_drop]

theorem set_split (E : List S62) (p : Nat) (x : S62) (hp : p < E.length) : E.set p x = E.take p ++ x :: E.drop (p + 1) := by
  rw [List.set_eq_take_append_cons_drop, if_pos hp]

theorem growO_some (live : Int) (hl0 : 0 ≤ live) (hl1 : live ≤ 3000) (d : Nat) : ∀ (m f : Nat), m + d = 14 → ∃ e, e ≤ d ∧ growO (f + d + 1) ((2 ^ m : Nat) : Int) live = some ((2 ^ (m + e) : Nat) : Int) ∧ 3 * live < ((2 ^ (m + e) : Nat) : Int) := by
  induction d with
  | zero =>
    intro m f h
    obtain rfl : m = 14 := by omega
    have h14 : ((2 ^ 14 : Nat) : Int) = 16384 := rfl
    refine ⟨0, by omega, ?_, ?_⟩
    · simp only [growO, Nat.add_zero]
      rw [if_neg (by rw [h14]; omega)]
    · rw [Nat.add_zero, h14]
      omega
  | succ d ih =>
    intro m f h
    by_cases hc : ((2 ^ m : Nat) : Int) ≤ 3 * live
    · obtain ⟨e, he, hg, hb⟩ := ih (m + 1) f (by omega)
      have e2 : ((2 ^ m : Nat) : Int) * 2 = ((2 ^ (m + 1) : Nat) : Int) := by rw [Nat.pow_succ]; omega
      have e3 : m + (e + 1) = m + 1 + e := by omega
      refine ⟨e + 1, by omega, ?_, by rw [e3]; exact hb⟩
      have e4 : f + (d + 1) + 1 = (f + d + 1) + 1 := by omega
      rw [e4]
      generalize f + d + 1 = q at *
      simp only [growO]
      rw [if_pos hc, e2, hg, e3]
    · refine ⟨0, by omega, ?_, by rw [Nat.add_zero]; omega⟩
      simp only [growO, Nat.add_zero]
      rw [if_neg hc]

/-- What a search in a good dict tells of what is alive. -/
theorem Good.look {T : List Int} {E : List S62} {live : Int} (h : Good T E live) (hash key : Int) (h0 : 0 ≤ hash) (h1 : hash ≤ 18446744073709551615) :
    ∃ p q : Int, impl_yfind.f T E live hash key = some (p, q) ∧ 1 ≤ q ∧ ((p = -1 ∧ (hash, key) ∉ (liv E).map ky) ∨ (∃ n : Nat, p = n ∧ n < E.length ∧ alive (rd_T62 E n) = true ∧ (rd_T62 E n).f0 = hash ∧ (rd_T62 E n).f1 = key)) := by
  obtain ⟨m, m3, m16, hm⟩ := h.pw
  obtain ⟨s8, s6, sl, l0, l1⟩ := h.sizes
  obtain ⟨J, hJ, hs, hmin, hf1, _⟩ := find_both m T.length hm s6 E sl T h.inv live hash key h0 h1
  have hfi := find_in h.inv hash (by clear hm; omega) J
  refine ⟨_, _, hf1, by clear hm; omega, ?_⟩
  by_cases hc : rd T (path hash T.length J) < 0
  · rw [if_pos hc]
    refine Or.inl ⟨rfl, fun hmem => ?_⟩
    obtain ⟨x, hx, hxk⟩ := List.mem_map.1 hmem
    obtain ⟨e, he, rfl⟩ := List.mem_map.1 hx
    obtain ⟨heE, hal⟩ := List.mem_filter.1 he
    obtain ⟨j, hj, rfl⟩ := List.getElem_of_mem heE
    have hrj : rd_T62 E (j : Int) = E[j] := by simp [rd_T62, List.getElem?_eq_getElem hj]
    have hP : ∃ j : Nat, j < E.length ∧ (rd_T62 E j).f3 = false ∧ (rd_T62 E j).f0 = hash ∧ (rd_T62 E j).f1 = key := by
      refine ⟨j, hj, ?_⟩
      rw [hrj]
      simp only [ky, t3, Prod.mk.injEq] at hxk
      exact ⟨by simpa [alive] using hal, hxk.1, hxk.2⟩
    obtain ⟨j, ⟨hj, a3, a0, a1⟩, hleast⟩ := least hP
    have hf := (find_own m T.length hm E sl h.h T h.inv j hj a3 J (by rw [a0, a1]; exact hs) (by rw [a0, a1]; exact hmin)).2 (fun i hi ⟨b3, b0, b1⟩ => hleast i hi ⟨by clear hm; omega, b3, b0.trans a0, b1.trans a1⟩)
    rw [a0, if_pos hc] at hf
    clear hm
    omega
  · rw [if_neg hc]
    have h2 := hs.resolve_left hc
    refine Or.inr ⟨(rd T (path hash T.length J)).toNat, by clear hm; omega, by clear hm; omega, ?_⟩
    rw [Int.toNat_of_nonneg (by clear hm; omega)]
    exact ⟨by simpa [alive] using h2.1, h2.2.1, h2.2.2⟩

theorem Good.cutM {T : List Int} {E : List S62} {live : Int} (h : Good T E live) (hash key : Int) (h0 : 0 ≤ hash) (h1 : hash ≤ 18446744073709551615) :
    (ycutM T E live hash key = some (T, E, live, false) ∧ (hash, key) ∉ (liv E).map ky) ∨
    ∃ (A B : List (Int × Int × Int)) (v : Int) (E' : List S62), ycutM T E live hash key = some (T, E', live - 1, true) ∧ Good T E' (live - 1) ∧ liv E = A ++ (hash, key, v) :: B ∧ liv E' = A ++ B := by
  obtain ⟨s8, s6, sl, l0, l1⟩ := h.sizes
  obtain ⟨p, q, hf1, hq, hp⟩ := h.look hash key h0 h1
  rcases hp with ⟨rfl, hno⟩ | ⟨n, rfl, hn, hal, a0, a1⟩
  · refine Or.inl ⟨?_, hno⟩
    unfold ycutM
    rw [if_pos ⟨l0, by omega⟩, hf1]
    rfl
  · have h3 : (rd_T62 E (n : Int)).f3 = false := by simpa [alive] using hal
    have hg := h.set n ⟨hash, 0, 0, true⟩ hn a0.symm
    rw [h3] at hg
    refine Or.inr ⟨liv (E.take n), liv (E.drop (n + 1)), (rd_T62 E (n : Int)).f2, E.set n ⟨hash, 0, 0, true⟩, ?_, by simpa using hg, ?_, ?_⟩
    · unfold ycutM
      rw [if_pos ⟨l0, by omega⟩, hf1]
      simp only [Option.bind_some]
      rw [if_pos (by omega), if_pos (by omega), Int.toNat_natCast]
    · conv => lhs; rw [split_at E n hn]
      rw [liv_append]
      congr 1
      unfold liv
      rw [List.filter_cons_of_pos hal, List.map_cons]
      simp only [t3, a0, a1]
    · rw [set_split E n _ hn, liv_append]
      congr 1

set_option maxHeartbeats 1000000 in
theorem Good.putM {T : List Int} {E : List S62} {live : Int} (h : Good T E live) (hash key val : Int) (h0 : 0 ≤ hash) (h1 : hash ≤ 18446744073709551615) (hlv : live ≤ 3000) :
    (∃ (A B : List (Int × Int × Int)) (v : Int) (E' : List S62), yputM T E live hash key val = some (T, E', live, true) ∧ Good T E' live ∧ liv E = A ++ (hash, key, v) :: B ∧ liv E' = A ++ (hash, key, val) :: B) ∨
    (∃ (T' : List Int) (E' : List S62), yputM T E live hash key val = some (T', E', live + 1, true) ∧ Good T' E' (live + 1) ∧ (hash, key) ∉ (liv E).map ky ∧ liv E' = liv E ++ [(hash, key, val)]) := by
  obtain ⟨m, m3, m16, hm⟩ := h.pw
  obtain ⟨s8, h6, hlt, l0, l1⟩ := h.sizes
  obtain ⟨p, q, hf1, hq, hpp⟩ := h.look hash key h0 h1
  have hle := h.le
  have hH := h.h
  have ht := h.t
  have hI := h.inv
  have hc := h.c
  have hcond : 0 ≤ live ∧ live ≤ 1000000 ∧ E.length ≤ 1000000 ∧ (∀ e ∈ E, 0 ≤ e.f0 ∧ e.f0 ≤ 18446744073709551615) ∧ T.length ≤ 1000000 ∧ 0 < T.length ∧ 0 ≤ hash ∧ hash ≤ 18446744073709551615 := by
    clear hm hpp
    refine ⟨?_, ?_, ?_, hH, ?_, ?_, h0, h1⟩
    · omega
    · omega
    · omega
    · omega
    · omega
  have hY : yputM T E live hash key val = (if 0 ≤ p then (if p < E.length then some (T, E.set p.toNat ⟨(rd_T62 E p).f0, (rd_T62 E p).f1, val, (rd_T62 E p).f3⟩, live, true) else none)
      else if 2 * (T.length : Int) / 3 ≤ E.length then (growO 40 8 live).bind fun N => if 65536 < N then some (T, E, live, false) else (reLay (List.replicate N.toNat (-1)) [] E).bind fun p => put2 p.1 p.2 live hash key val
      else put2 T E live hash key val) := by
    unfold yputM
    rw [if_pos hcond, hf1]
    rfl
  clear hf1
  have he : ∀ F : List S62, (∀ e ∈ F, 0 ≤ e.f0 ∧ e.f0 ≤ 18446744073709551615) → ∀ e ∈ F ++ [(⟨hash, key, val, false⟩ : S62)], 0 ≤ e.f0 ∧ e.f0 ≤ 18446744073709551615 := by
    intro F hF e he
    rcases List.mem_append.1 he with h | h
    · exact hF e h
    · rw [List.mem_singleton.1 h]
      exact ⟨h0, h1⟩
  have hnew : liv [(⟨hash, key, val, false⟩ : S62)] = [(hash, key, val)] := rfl
  rcases hpp with ⟨rfl, hno⟩ | ⟨n, rfl, hn, hal, a0, a1⟩
  · refine Or.inr ?_
    rw [if_neg (by omega)] at hY
    by_cases hbig : 2 * (T.length : Int) / 3 ≤ E.length
    · rw [if_pos hbig] at hY
      obtain ⟨e, he5, hg, h3⟩ := growO_some live l0 hlv 11 3 28 rfl
      have e8 : ((2 ^ 3 : Nat) : Int) = 8 := rfl
      rw [e8] at hg
      rw [show (40 : Nat) = 28 + 11 + 1 from rfl, hg] at hY
      simp only [Option.bind_some] at hY
      have hN14 : 2 ^ (3 + e) ≤ 2 ^ 14 := Nat.pow_le_pow_right (show 0 < 2 by omega) (show 3 + e ≤ 14 by omega)
      have hN8 : 8 ≤ 2 ^ (3 + e) := Nat.pow_le_pow_right (show 0 < 2 by omega) (show 3 ≤ 3 + e by omega)
      have h14 : 2 ^ 14 = 16384 := rfl
      rw [h14] at hN14
      have he16 : 3 + e ≤ 16 := by omega
      generalize hNN : 2 ^ (3 + e) = N at *
      rw [if_neg (by omega), Int.toNat_natCast] at hY
      have hfl : ((E.filter alive).length : Int) = live := (alive_count E).trans hc
      have hcF : cntI (E.filter alive) = live := by
        rw [← alive_count (E.filter alive), List.filter_filter]
        simpa using hfl
      have hlF : liv (E.filter alive) = liv E := by
        unfold liv
        rw [List.filter_filter]
        simp
      have hfH : ∀ x ∈ E.filter alive, 0 ≤ x.f0 ∧ x.f0 ≤ 18446744073709551615 := fun x hx => hH x (List.mem_filter.1 hx).1
      generalize hF : E.filter alive = F at *
      obtain ⟨T1, hT1, hI1'⟩ := tab_ok (3 + e) N hNN.symm (by omega) F (by omega) hfH F.length 0 (by omega) _ (inv_zero N F)
      rw [List.drop_zero] at hT1
      obtain ⟨T2, hT2, hI2'⟩ := tab_ok (3 + e) N hNN.symm (by omega) (F ++ [⟨hash, key, val, false⟩]) (by simp; omega) (he F hfH) (F.length + 1) 0 (by simp) _ (inv_zero N _)
      rw [List.drop_zero] at hT2
      have hr := reLay_eq N E (List.replicate N (-1)) [] (by simp)
      rw [hF] at hr
      have hT1' : tab N F (([] : List S62).length) (List.replicate N (-1)) = some T1 := hT1
      rw [hT1'] at hr
      simp only [Option.bind_some, List.nil_append] at hr
      rw [hr] at hY
      simp only [Option.bind_some] at hY
      have hmore := tab_more N F ⟨hash, key, val, false⟩ _ _ hT1
      have hT2' : tab N (F ++ [⟨hash, key, val, false⟩]) 0 (List.replicate N (-1)) = some T2 := hT2
      rw [hT2'] at hmore
      rw [put2_eq, hI1'.len, ← hmore] at hY
      simp only [Option.bind_some] at hY
      have hl2 : T2.length = N := hI2'.len
      refine ⟨T2, F ++ [⟨hash, key, val, false⟩], hY, ⟨⟨3 + e, by omega, he16, hl2.trans hNN.symm⟩, ?_, he F hfH, ?_, ?_, ?_⟩, hno, ?_⟩
      · rw [hl2, List.length_append]
        simp only [List.length_singleton]
        omega
      · rw [hl2]
        exact hT2'
      · rw [hl2]
        exact hI2'
      · rw [cntI_append, hcF]
        rfl
      · rw [liv_append, hlF, hnew]
    · rw [if_neg hbig] at hY
      obtain ⟨T2, hT2, hI2'⟩ := tab_ok m T.length hm h6 (E ++ [⟨hash, key, val, false⟩]) (by simp; omega) (he E hH) (E.length + 1) 0 (by simp) _ (inv_zero T.length _)
      rw [List.drop_zero] at hT2
      have hT2' : tab T.length (E ++ [⟨hash, key, val, false⟩]) 0 (List.replicate T.length (-1)) = some T2 := hT2
      have hmore := tab_more T.length E ⟨hash, key, val, false⟩ _ _ ht
      rw [hT2'] at hmore
      rw [put2_eq, ← hmore] at hY
      simp only [Option.bind_some] at hY
      have hl2 : T2.length = T.length := hI2'.len
      refine ⟨T2, E ++ [⟨hash, key, val, false⟩], hY, ⟨⟨m, m3, m16, hl2.trans hm⟩, ?_, he E hH, ?_, ?_, ?_⟩, hno, ?_⟩
      · rw [hl2, List.length_append]
        simp only [List.length_singleton]
        clear hm
        omega
      · rw [hl2]
        exact hT2'
      · rw [hl2]
        exact hI2'
      · rw [cntI_append, hc]
        rfl
      · rw [liv_append, hnew]
  · refine Or.inl ⟨liv (E.take n), liv (E.drop (n + 1)), (rd_T62 E (n : Int)).f2, E.set n ⟨(rd_T62 E n).f0, (rd_T62 E n).f1, val, (rd_T62 E n).f3⟩, ?_, ?_, ?_, ?_⟩
    · rw [if_pos (by omega), if_pos (by clear hm; omega), Int.toNat_natCast] at hY
      exact hY
    · have hg := h.set n ⟨(rd_T62 E n).f0, (rd_T62 E n).f1, val, (rd_T62 E n).f3⟩ hn rfl
      have e : live + (if (rd_T62 E n).f3 = true then 0 else 1) - (if (rd_T62 E n).f3 = true then 0 else 1) = live := by clear hm; omega
      simp only [e] at hg
      exact hg
    · conv => lhs; rw [split_at E n hn]
      rw [liv_append]
      congr 1
      unfold liv
      rw [List.filter_cons_of_pos hal, List.map_cons]
      simp only [t3, a0, a1]
    · rw [set_split E n _ hn, liv_append]
      congr 1
      unfold liv
      rw [List.filter_cons_of_pos (by simpa [alive] using hal), List.map_cons]
      simp only [t3, a0, a1]

/-! ### The law's list -/
structure Sim (L : List S37) (E : List S62) : Prop where
  eq : L.map o3 = liv E
  nd : (L.map fun o => (o.f1, o.f2)).Nodup

theorem keys_eq (L : List S37) : (L.map o3).map ky = L.map fun o => (o.f1, o.f2) := by
  rw [List.map_map]
  rfl

/-- The law's loop, none of it matching. -/
theorem scan_none (l L : List S37) (r : List Int) (i x8 kind hash key val : Int) (hL : L.length ≤ 100000) (k d : Nat) : ∀ j : Nat, j + d = L.length → (∀ j' : Nat, j ≤ j' → j' < L.length → ¬ ((rd_T37 L j').f1 = hash ∧ (rd_T37 L j').f2 = key)) →
    laws_FnDictMap.l1 (k + 1 + d) l r L i x8 j kind hash key val = laws_FnDictMap.l1 (k + 1) l r L i x8 L.length kind hash key val := by
  induction d with
  | zero =>
    intro j h1 h2
    obtain rfl : j = L.length := by omega
    rfl
  | succ d ih =>
    intro j h1 h2
    have e : k + 1 + (d + 1) = (k + 1 + d) + 1 := by omega
    rw [e]
    have := ih (j + 1) (by omega) (fun j' ha hb => h2 j' (by omega) hb)
    generalize k + 1 + d = q at *
    have hno := h2 j (Nat.le_refl _) (by omega)
    conv => lhs; unfold laws_FnDictMap.l1
    rw [if_pos (by omega), if_pos (by omega), wrap_in ((j : Int) + 1) (by omega) (by omega)]
    have e1 : (j : Int) + 1 = ((j + 1 : Nat) : Int) := by omega
    rw [e1]
    by_cases c1 : (rd_T37 L (j : Int)).f1 = hash
    · rw [if_pos c1, if_neg (fun c2 => hno ⟨c1, c2⟩)]
      exact this
    · rw [if_neg c1]
      exact this

/-- The law's loop, one of it matching. -/
theorem scan_one (l L : List S37) (r : List Int) (i kind hash key val : Int) (hL : L.length ≤ 100000) (m : Nat) (hm : m < L.length) (hmt : (rd_T37 L m).f1 = hash ∧ (rd_T37 L m).f2 = key) (hno : ∀ j' : Nat, j' < L.length → j' ≠ m → ¬ ((rd_T37 L j').f1 = hash ∧ (rd_T37 L j').f2 = key))
    (k d : Nat) : ∀ (j : Nat) (x8 : Int), j + d = L.length → j ≤ m → laws_FnDictMap.l1 (k + 1 + d) l r L i x8 j kind hash key val = laws_FnDictMap.l1 (k + 1) l r L i m L.length kind hash key val := by
  induction d with
  | zero =>
    intro j x8 h1 h2
    omega
  | succ d ih =>
    intro j x8 h1 h2
    have e : k + 1 + (d + 1) = (k + 1 + d) + 1 := by omega
    rw [e]
    have e1 : (j : Int) + 1 = ((j + 1 : Nat) : Int) := by omega
    by_cases hj : j = m
    · subst hj
      have := scan_none l L r i j kind hash key val hL k d (j + 1) (by omega) (fun j' ha hb => hno j' hb (by omega))
      generalize k + 1 + d = q at *
      conv => lhs; unfold laws_FnDictMap.l1
      rw [if_pos (by omega), if_pos (by omega), wrap_in ((j : Int) + 1) (by omega) (by omega), e1, if_pos hmt.1, if_pos hmt.2]
      exact this
    · have := ih (j + 1) x8 (by omega) (by omega)
      generalize k + 1 + d = q at *
      have hn := hno j (by omega) hj
      conv => lhs; unfold laws_FnDictMap.l1
      rw [if_pos (by omega), if_pos (by omega), wrap_in ((j : Int) + 1) (by omega) (by omega), e1]
      by_cases c1 : (rd_T37 L (j : Int)).f1 = hash
      · rw [if_pos c1, if_neg (fun c2 => hn ⟨c1, c2⟩)]
        exact this
      · rw [if_neg c1]
        exact this

theorem rd37_at (L : List S37) (j : Nat) (hj : j < L.length) : rd_T37 L j = L[j] := by
  simp [rd_T37, List.getElem?_eq_getElem hj]

/-- No match: the scan tells -1. -/
theorem scan_no (l L : List S37) (E : List S62) (r : List Int) (i kind hash key val : Int) (hL : L.length ≤ 100000) (hS : Sim L E) (hno : (hash, key) ∉ (liv E).map ky) (k : Nat) :
    laws_FnDictMap.l1 (k + 1 + L.length) l r L i (-1) 0 kind hash key val = laws_FnDictMap.l1 (k + 1) l r L i (-1) L.length kind hash key val := by
  refine scan_none l L r i (-1) kind hash key val hL k L.length 0 (by omega) (fun j' _ hj' ⟨b1, b2⟩ => hno ?_)
  rw [← hS.eq, keys_eq, ← b1, ← b2, rd37_at L j' hj']
  exact List.mem_map_of_mem (List.getElem_mem _)

/-- A match: the list is parted there. -/
theorem scan_yes (l L : List S37) (E : List S62) (r : List Int) (i kind hash key val : Int) (hL : L.length ≤ 100000) (hS : Sim L E) (A B : List (Int × Int × Int)) (v : Int) (hAB : liv E = A ++ (hash, key, v) :: B) (k : Nat) :
    ∃ (LA LB : List S37) (o : S37), L = LA ++ o :: LB ∧ LA.map o3 = A ∧ LB.map o3 = B ∧ o.f1 = hash ∧ o.f2 = key ∧ o.f3 = v ∧
      laws_FnDictMap.l1 (k + 1 + L.length) l r L i (-1) 0 kind hash key val = laws_FnDictMap.l1 (k + 1) l r L i (LA.length : Int) L.length kind hash key val := by
  have he := hS.eq
  rw [hAB] at he
  obtain ⟨LA, LR, hL1, hA, hR⟩ := List.map_eq_append_iff.1 he
  obtain ⟨o, LB, hL2, ho, hB⟩ := List.map_eq_cons_iff.1 hR
  simp only [o3, Prod.mk.injEq] at ho
  obtain ⟨o1, o2, o4⟩ := ho
  have hLL : L = LA ++ o :: LB := by rw [hL1, hL2]
  refine ⟨LA, LB, o, hLL, hA, hB, o1, o2, o4, ?_⟩
  have hlen : LA.length < L.length := by rw [hLL, List.length_append, List.length_cons]; omega
  have hat : L[LA.length] = o := by simp [hLL]
  refine scan_one l L r i kind hash key val hL LA.length hlen ?_ ?_ k L.length 0 (-1) (by omega) (by omega)
  · rw [rd37_at L _ hlen, hat]
    exact ⟨o1, o2⟩
  · intro j' hj' hne ⟨b1, b2⟩
    rw [rd37_at L j' hj'] at b1 b2
    refine hne ?_
    have h1 : j' < (L.map fun o => (o.f1, o.f2)).length := by rw [List.length_map]; exact hj'
    have h2 : LA.length < (L.map fun o => (o.f1, o.f2)).length := by rw [List.length_map]; exact hlen
    have hpw := List.pairwise_iff_getElem.1 hS.nd
    have heq : (L.map fun o => (o.f1, o.f2))[j'] = (L.map fun o => (o.f1, o.f2))[LA.length] := by simp [List.getElem_map, b1, b2, hat, o1, o2]
    rcases Nat.lt_trichotomy j' LA.length with hlt | hlt | hlt
    · exact absurd heq (hpw j' LA.length h1 h2 hlt)
    · exact hlt
    · exact absurd heq.symm (hpw LA.length j' h2 h1 hlt)

theorem rd_mid (O s : List Int) (v : Int) (i : Nat) (h : O.length = i) : rd (O ++ v :: s) (i : Int) = v := by
  subst h
  simp [rd]

theorem op_at (l : List S37) (i : Nat) (hi : i < l.length) : l.drop i = rd_T37 l i :: l.drop (i + 1) := by
  rw [List.drop_eq_getElem_cons hi]
  congr 1
  simp [rd_T37, List.getElem?_eq_getElem hi]

/-- One operation, in the dict and in the list. -/
theorem step_both (l : List S37) (hl : l.length ≤ 3000) (i : Nat) (hi : i < l.length) (T : List Int) (E : List S62) (live : Int) (L : List S37) (hG : Good T E live) (hlv : live ≤ i) (hS : Sim L E) (o : S37) (ho : rd_T37 l i = o) (h0 : 0 ≤ o.f1) (h1 : o.f1 ≤ 18446744073709551615) :
    ∃ (T' : List Int) (E' : List S62) (live' v : Int) (L' : List S37), runOp o T E live = some (T', E', live', v) ∧ Good T' E' live' ∧ live' ≤ i + 1 ∧ Sim L' E' ∧
      ∀ (k : Nat) (r : List Int), 5000 ≤ k → r.length = l.length → rd r i = v → ∃ k', k - 4000 ≤ k' ∧ laws_FnDictMap.l0 k l r L i = laws_FnDictMap.l0 k' l r L' ((i + 1 : Nat) : Int) := by
  obtain ⟨s8, s6, sl, l0, l1⟩ := hG.sizes
  have hLl : (L.length : Int) = live := by
    have h2 := congrArg List.length hS.eq
    rw [List.length_map] at h2
    have h3 := liv_length E
    rw [hG.c] at h3
    omega
  have hL : L.length ≤ 3000 := by omega
  have HWI : Aside0 (wrap64 ((i : Int) + 1) = ((i + 1 : Nat) : Int)) := ⟨by
    rw [wrap_in _ (by omega) (by omega)]
    omega⟩
  have hstart : ∀ (k : Nat) (r : List Int), 5000 ≤ k → ∃ q, k - 4000 ≤ q ∧ laws_FnDictMap.l0 k l r L i = laws_FnDictMap.l1 (q + 1 + L.length) l r L i (-1) 0 o.f0 o.f1 o.f2 o.f3 := by
    intro k r hk
    obtain ⟨q, rfl⟩ : ∃ q, k = (q + 1 + L.length) + 1 := ⟨k - L.length - 2, by omega⟩
    refine ⟨q, by omega, ?_⟩
    conv => lhs; unfold laws_FnDictMap.l0
    rw [if_pos (by omega), if_pos (by omega), ho]
  have hkeep : ∀ v : Int, runOp o T E live = some (T, E, live, v) → (∀ (q : Nat) (r : List Int), r.length = l.length → rd r i = v → laws_FnDictMap.l1 (q + 1 + L.length) l r L i (-1) 0 o.f0 o.f1 o.f2 o.f3 = laws_FnDictMap.l0 q l r L ((i + 1 : Nat) : Int)) → ∃ (T' : List Int) (E' : List S62) (live' v : Int) (L' : List S37), runOp o T E live = some (T', E', live', v) ∧ Good T' E' live' ∧ live' ≤ i + 1 ∧ Sim L' E' ∧
      ∀ (k : Nat) (r : List Int), 5000 ≤ k → r.length = l.length → rd r i = v → ∃ k', k - 4000 ≤ k' ∧ laws_FnDictMap.l0 k l r L i = laws_FnDictMap.l0 k' l r L' ((i + 1 : Nat) : Int) := by
    intro v hv hq
    refine ⟨T, E, live, v, L, hv, hG, by omega, hS, fun k r hk hr hrv => ?_⟩
    obtain ⟨q, hq1, hq2⟩ := hstart k r hk
    exact ⟨q, hq1, hq2.trans (hq q r hr hrv)⟩
  by_cases k1 : o.f0 = 1
  · rcases hG.putM o.f1 o.f2 o.f3 h0 h1 (by omega) with ⟨A, B, v0, E', hp, hg, hA, hE'⟩ | ⟨T', E', hp, hg, hno, hE'⟩
    · obtain ⟨LA, LB, oo, hLL, hLA, hLB, oo1, oo2, oo3, _⟩ := scan_yes l L E [] i o.f0 o.f1 o.f2 o.f3 (by omega) hS A B v0 hA 0
      refine ⟨T, E', live, ans true, LA ++ ⟨oo.f0, oo.f1, oo.f2, o.f3⟩ :: LB, ?_, hg, by omega, ⟨?_, ?_⟩, ?_⟩
      · unfold runOp
        rw [if_pos k1, hp]
        rfl
      · rw [hE', List.map_append, List.map_cons, hLA, hLB]
        simp only [o3, oo1, oo2]
      · have := hS.nd
        rw [hLL] at this
        simpa using this
      · intro k r hk hr hrv
        obtain ⟨q, hq1, hq2⟩ := hstart k r hk
        refine ⟨q, hq1, hq2.trans ?_⟩
        obtain ⟨LA', LB', o', hLL', hLA', _, _, _, _, hsc⟩ := scan_yes l L E r i o.f0 o.f1 o.f2 o.f3 (by omega) hS A B v0 hA q
        have hla : LA'.length = LA.length := by
          have e1 := congrArg List.length hLA'
          have e2 := congrArg List.length hLA
          rw [List.length_map] at e1 e2
          omega
        rw [hla] at hsc
        rw [hsc]
        have hlen : LA.length < L.length := by rw [hLL, List.length_append, List.length_cons]; omega
        have hat : rd_T37 L (LA.length : Int) = oo := by rw [rd37_at L _ hlen]; simp [hLL]
        have hset : L.set LA.length ⟨oo.f0, oo.f1, oo.f2, o.f3⟩ = LA ++ ⟨oo.f0, oo.f1, oo.f2, o.f3⟩ :: LB := by
          rw [hLL]
          simp
        conv => lhs; unfold laws_FnDictMap.l1
        rw [if_neg (by omega), if_pos k1, if_pos (by omega), if_pos (by omega), if_pos (by omega), if_pos (by omega), if_pos (by omega), if_pos (show rd r (i : Int) = 1 from hrv), hat, Int.toNat_natCast, hset, HWI.out]
    · refine ⟨T', E', live + 1, ans true, L ++ [⟨o.f0, o.f1, o.f2, o.f3⟩], ?_, hg, by omega, ⟨?_, ?_⟩, ?_⟩
      · unfold runOp
        rw [if_pos k1, hp]
        rfl
      · rw [hE', List.map_append, hS.eq]
        rfl
      · rw [List.map_append, List.nodup_append]
        refine ⟨hS.nd, by simp, ?_⟩
        intro a ha b hb
        simp only [List.map_cons, List.map_nil, List.mem_singleton] at hb
        rw [hb]
        rintro rfl
        refine hno ?_
        rw [← hS.eq, keys_eq]
        exact ha
      · intro k r hk hr hrv
        obtain ⟨q, hq1, hq2⟩ := hstart k r hk
        refine ⟨q, hq1, hq2.trans ?_⟩
        rw [scan_no l L E r i o.f0 o.f1 o.f2 o.f3 (by omega) hS hno q]
        conv => lhs; unfold laws_FnDictMap.l1
        rw [if_neg (by omega), if_pos k1, if_neg (by omega), if_pos (by omega), if_pos (by omega), if_pos (by omega), if_pos (show rd r (i : Int) = 1 from hrv), HWI.out]
  · by_cases k2 : o.f0 = 2
    · obtain ⟨p, q0, hf1, hq0, hp⟩ := hG.look o.f1 o.f2 h0 h1
      rcases hp with ⟨rfl, hno⟩ | ⟨n, rfl, hn, hal, a0, a1⟩
      · refine hkeep (-1) (by unfold runOp; rw [if_neg k1, if_pos k2, hf1]; rfl) (fun q r hr hrv => ?_)
        rw [scan_no l L E r i o.f0 o.f1 o.f2 o.f3 (by omega) hS hno q]
        conv => lhs; unfold laws_FnDictMap.l1
        rw [if_neg (by omega), if_neg k1, if_pos k2, if_neg (by omega), if_pos (by omega), if_pos (by omega), if_pos hrv, HWI.out]
      · have hAB : liv E = liv (E.take n) ++ (o.f1, o.f2, (rd_T62 E (n : Int)).f2) :: liv (E.drop (n + 1)) := by
          conv => lhs; rw [split_at E n hn]
          rw [liv_append]
          congr 1
          unfold liv
          rw [List.filter_cons_of_pos hal, List.map_cons]
          simp only [t3, a0, a1]
        refine hkeep (rd_T62 E (n : Int)).f2 (by unfold runOp; rw [if_neg k1, if_pos k2, hf1]; simp only [Option.bind_some]; rw [if_pos (by omega), if_pos (by omega)]) (fun q r hr hrv => ?_)
        obtain ⟨LA, LB, oo, hLL, hLA, hLB, oo1, oo2, oo3, hsc⟩ := scan_yes l L E r i o.f0 o.f1 o.f2 o.f3 (by omega) hS _ _ _ hAB q
        rw [hsc]
        have hlen : LA.length < L.length := by rw [hLL, List.length_append, List.length_cons]; omega
        have hat : rd_T37 L (LA.length : Int) = oo := by rw [rd37_at L _ hlen]; simp [hLL]
        conv => lhs; unfold laws_FnDictMap.l1
        rw [if_neg (by omega), if_neg k1, if_pos k2, if_pos (by omega), if_pos (by omega), if_pos (by omega), if_pos (by omega), if_pos (by omega), hat, oo3, if_pos hrv, HWI.out]
    · by_cases k3 : o.f0 = 3
      · rcases hG.cutM o.f1 o.f2 h0 h1 with ⟨hp, hno⟩ | ⟨A, B, v0, E', hp, hg, hA, hE'⟩
        · refine hkeep (ans false) (by unfold runOp; rw [if_neg k1, if_neg k2, if_pos k3, hp]; rfl) (fun q r hr hrv => ?_)
          rw [scan_no l L E r i o.f0 o.f1 o.f2 o.f3 (by omega) hS hno q]
          conv => lhs; unfold laws_FnDictMap.l1
          rw [if_neg (by omega), if_neg k1, if_neg k2, if_pos k3, if_neg (by omega), if_pos (by omega), if_pos (by omega), if_pos (show rd r (i : Int) = 0 from hrv), HWI.out]
        · obtain ⟨LA, LB, oo, hLL, hLA, hLB, oo1, oo2, oo3, _⟩ := scan_yes l L E [] i o.f0 o.f1 o.f2 o.f3 (by omega) hS A B v0 hA 0
          refine ⟨T, E', live - 1, ans true, LA ++ LB, ?_, hg, by omega, ⟨?_, ?_⟩, ?_⟩
          · unfold runOp
            rw [if_neg k1, if_neg k2, if_pos k3, hp]
            rfl
          · rw [hE', List.map_append, hLA, hLB]
          · have := hS.nd
            rw [hLL] at this
            refine List.Nodup.sublist ?_ this
            exact List.Sublist.map _ (List.Sublist.append (List.Sublist.refl _) (List.sublist_cons_self _ _))
          · intro k r hk hr hrv
            obtain ⟨q, hq1, hq2⟩ := hstart k r hk
            refine ⟨q, hq1, hq2.trans ?_⟩
            obtain ⟨LA', LB', o', hLL', hLA', _, _, _, _, hsc⟩ := scan_yes l L E r i o.f0 o.f1 o.f2 o.f3 (by omega) hS A B v0 hA q
            have hla : LA'.length = LA.length := by
              have e1 := congrArg List.length hLA'
              have e2 := congrArg List.length hLA
              rw [List.length_map] at e1 e2
              omega
            rw [hla] at hsc
            rw [hsc]
            have hlen : LA.length < L.length := by rw [hLL, List.length_append, List.length_cons]; omega
            have htk : L.take LA.length = LA := by rw [hLL]; simp
            have hdr : L.drop (LA.length + 1) = LB := by rw [hLL]; simp
            have hlb : LB.length ≤ 3000 := by
              have := congrArg List.length hLL
              rw [List.length_append, List.length_cons] at this
              omega
            conv => lhs; unfold laws_FnDictMap.l1
            have hlt : (L.take LA.length).length ≤ 3000 := by rw [htk]; omega
            have hld : (([] : List S37) ++ L.take LA.length).length ≤ 3000 := by rw [List.nil_append]; exact hlt
            have hlb2 : (L.drop (LA.length + 1)).length ≤ 3000 := by rw [hdr]; omega
            have hl0 : (([] : List S37)).length = 0 := rfl
            have hfin : (([] : List S37) ++ L.take LA.length) ++ L.drop (LA.length + 1) = LA ++ LB := by rw [htk, hdr, List.nil_append]
            rw [if_neg (by omega), if_neg k1, if_neg k2, if_pos k3, if_pos (by omega), Option.bind_some, if_pos (by omega), if_pos (by omega), Option.bind_some, Int.toNat_natCast]
            rw [if_pos (by omega), Option.bind_some, wrap_in ((LA.length : Int) + 1) (by omega) (by omega), if_pos (by omega), if_pos (by omega), Option.bind_some, show ((LA.length : Int) + 1).toNat = LA.length + 1 by omega]
            rw [if_pos (by omega), if_pos (by omega), if_pos (by omega), if_pos (show rd r (i : Int) = 1 from hrv), HWI.out, hfin]
      · by_cases k4 : o.f0 = 4
        · obtain ⟨p, q0, hf1, hq0, hp⟩ := hG.look o.f1 o.f2 h0 h1
          refine hkeep q0 (by unfold runOp; rw [if_neg k1, if_neg k2, if_neg k3, if_pos k4, hf1]; rfl) (fun q r hr hrv => ?_)
          have hsc : ∃ x8 : Int, laws_FnDictMap.l1 (q + 1 + L.length) l r L i (-1) 0 o.f0 o.f1 o.f2 o.f3 = laws_FnDictMap.l1 (q + 1) l r L i x8 L.length o.f0 o.f1 o.f2 o.f3 := by
            rcases hp with ⟨rfl, hno⟩ | ⟨n, rfl, hn, hal, a0, a1⟩
            · exact ⟨_, scan_no l L E r i o.f0 o.f1 o.f2 o.f3 (by omega) hS hno q⟩
            · have hAB : liv E = liv (E.take n) ++ (o.f1, o.f2, (rd_T62 E (n : Int)).f2) :: liv (E.drop (n + 1)) := by
                conv => lhs; rw [split_at E n hn]
                rw [liv_append]
                congr 1
                unfold liv
                rw [List.filter_cons_of_pos hal, List.map_cons]
                simp only [t3, a0, a1]
              obtain ⟨_, _, _, _, _, _, _, _, _, hsc⟩ := scan_yes l L E r i o.f0 o.f1 o.f2 o.f3 (by omega) hS _ _ _ hAB q
              exact ⟨_, hsc⟩
          obtain ⟨x8, hsc⟩ := hsc
          rw [hsc]
          conv => lhs; unfold laws_FnDictMap.l1
          rw [if_neg (by omega), if_neg k1, if_neg k2, if_neg k3, if_pos k4, if_pos (by omega), if_pos (by omega), if_neg (by omega), HWI.out]
        · have hsc : ∀ (q : Nat) (r : List Int), ∃ x8 : Int, laws_FnDictMap.l1 (q + 1 + L.length) l r L i (-1) 0 o.f0 o.f1 o.f2 o.f3 = laws_FnDictMap.l1 (q + 1) l r L i x8 L.length o.f0 o.f1 o.f2 o.f3 := by
            intro q r
            obtain ⟨p, q0, hf1, hq0, hp⟩ := hG.look o.f1 o.f2 h0 h1
            rcases hp with ⟨rfl, hno⟩ | ⟨n, rfl, hn, hal, a0, a1⟩
            · exact ⟨_, scan_no l L E r i o.f0 o.f1 o.f2 o.f3 (by omega) hS hno q⟩
            · have hAB : liv E = liv (E.take n) ++ (o.f1, o.f2, (rd_T62 E (n : Int)).f2) :: liv (E.drop (n + 1)) := by
                conv => lhs; rw [split_at E n hn]
                rw [liv_append]
                congr 1
                unfold liv
                rw [List.filter_cons_of_pos hal, List.map_cons]
                simp only [t3, a0, a1]
              obtain ⟨_, _, _, _, _, _, _, _, _, hsc⟩ := scan_yes l L E r i o.f0 o.f1 o.f2 o.f3 (by omega) hS _ _ _ hAB q
              exact ⟨_, hsc⟩
          by_cases k5 : o.f0 = 5
          · refine hkeep (T.length : Int) (by unfold runOp; rw [if_neg k1, if_neg k2, if_neg k3, if_neg k4, if_pos k5]) (fun q r hr hrv => ?_)
            obtain ⟨x8, hsc⟩ := hsc q r
            rw [hsc]
            conv => lhs; unfold laws_FnDictMap.l1
            rw [if_neg (by omega), if_neg k1, if_neg k2, if_neg k3, if_neg k4, if_pos k5, if_pos (by omega), if_pos (by omega), if_neg (by omega), HWI.out]
          · refine hkeep (-2) (by unfold runOp; rw [if_neg k1, if_neg k2, if_neg k3, if_neg k4, if_neg k5]) (fun q r hr hrv => ?_)
            obtain ⟨x8, hsc⟩ := hsc q r
            rw [hsc]
            conv => lhs; unfold laws_FnDictMap.l1
            rw [if_neg (by omega), if_neg k1, if_neg k2, if_neg k3, if_neg k4, if_neg k5, if_pos (by omega), if_pos (by omega), if_pos hrv, HWI.out]

theorem map_both (l : List S37) (hl : l.length ≤ 3000) (hw : ∀ o ∈ l, 0 ≤ o.f1 ∧ o.f1 ≤ 18446744073709551615) (d : Nat) : ∀ (i : Nat) (T : List Int) (E : List S62) (live : Int) (O : List Int) (L : List S37), i + d = l.length → O.length = i → Good T E live → live ≤ i → Sim L E →
    ∃ s, runAll (l.drop i) T E live O = some (O ++ s) ∧ s.length = d ∧ ∀ k, 5000 * (d + 1) ≤ k → laws_FnDictMap.l0 k l (O ++ s) L i = some true := by
  induction d with
  | zero =>
    intro i T E live O L h1 h2 hG hlv hS
    refine ⟨[], by rw [List.drop_of_length_le (by omega), List.append_nil]; rfl, rfl, fun k hk => ?_⟩
    obtain ⟨k, rfl⟩ : ∃ q, k = q + 1 := ⟨k - 1, by omega⟩
    unfold laws_FnDictMap.l0
    rw [if_neg (by omega)]
  | succ d ih =>
    intro i T E live O L h1 h2 hG hlv hS
    have hm : rd_T37 l i ∈ l := by
      simp only [rd_T37, Int.toNat_natCast, List.getD_eq_getElem?_getD, List.getElem?_eq_getElem (show i < l.length by omega), Option.getD_some]
      exact List.getElem_mem _
    obtain ⟨T', E', live', v, L', hr, hG', hlv', hS', hs⟩ := step_both l hl i (by omega) T E live L hG hlv hS _ rfl (hw _ hm).1 (hw _ hm).2
    obtain ⟨s, hr2, hsl, hs2⟩ := ih (i + 1) T' E' live' (O ++ [v]) L' (by omega) (by rw [List.length_append, h2]; rfl) hG' (by omega) hS'
    have hcat : (O ++ [v]) ++ s = O ++ v :: s := by simp
    rw [hcat] at hr2 hs2
    refine ⟨v :: s, ?_, by rw [List.length_cons, hsl], fun k hk => ?_⟩
    · rw [op_at l i (by omega)]
      simp only [runAll]
      rw [hr]
      exact hr2
    · obtain ⟨k', hk', he⟩ := hs k (O ++ v :: s) (by omega) (by rw [List.length_append, List.length_cons]; omega) (rd_mid O s v i h2)
      rw [he]
      exact hs2 k' (by omega)

end Go.Proofs.Ytohilfkdfcihgaa.DictT
