/- What the program's and the reference's DictRun come to: the same. Plain law; no condition beyond those of the theorems. -/
import Derived.Test.YtohilfkdfcihgaaDictM
import Derived.Test.YtohilfkdfcihgaaDictN
import Derived.Test.YtohilfkdfcihgaaPDrx1
import Derived.Test.YtohilfkdfcihgaaPDrx2
import Derived.Test.YtohilfkdfcihgaaPDrx3
import Derived.Test.YtohilfkdfcihgaaPDrx4
import Derived.Test.YtohilfkdfcihgaaGRun
set_option linter.unusedVariables false
set_option linter.unusedSimpArgs false
namespace Go.Proofs.Ytohilfkdfcihgaa.DictW
open Go.RowKit Go.Proofs.Ytohilfkdfcihgaa.PDi Go.Proofs.YtohilfkdfcihgaaW.PrintWords Go.Proofs.YtohilfkdfcihgaaW.PrintLast Go.Proofs.YtohilfkdfcihgaaW.PrintMore

theorem laws_markInt64S_loop (d : Nat) : ∀ (k i : Nat) (x : List Int) (v : Int), x.length = i + d → x.length < 4000000000000000000 → 0 ≤ v → v + d < 9000000000000000000 → d < k → laws_markInt64S.l0 k x v (i : Int) = some (v + d, x.take i ++ seqFrom v d) := by
  induction d with
  | zero =>
    intro k i x v h1 hx hv hvd h2
    obtain ⟨k, rfl⟩ : ∃ m, k = m + 1 := ⟨k - 1, by omega⟩
    simp only [laws_markInt64S.l0]
    rw [if_neg (by omega), List.take_of_length_le (by omega)]
    simp [seqFrom]
  | succ d ih =>
    intro k i x v h1 hx hv hvd h2
    obtain ⟨k, rfl⟩ : ∃ m, k = m + 1 := ⟨k - 1, by omega⟩
    simp only [laws_markInt64S.l0]
    rw [if_pos (by omega), if_pos (by omega), wrap_succ i (by omega), Int.toNat_natCast, wrap_in (v + 1) (by omega) (by omega)]
    rw [ih k (i + 1) (x.set i v) (v + 1) (by rw [List.length_set]; omega) (by rw [List.length_set]; omega) (by omega) (by omega) (by omega), take_set_self (by omega)]
    simp only [seqFrom, List.append_assoc, List.singleton_append]
    congr 2
    omega

theorem laws_markInt64S_some (x : List Int) (k : Nat) (hx : x.length < 4000000000000000000) (hk : x.length < k) : laws_markInt64S.f k x 1 = some (1 + (x.length : Int), seqFrom 1 x.length) := by
  unfold laws_markInt64S.f
  rw [show (0 : Int) = ((0 : Nat) : Int) from rfl, laws_markInt64S_loop x.length k 0 x 1 (by omega) hx (by omega) (by omega) hk]
  simp

end Go.Proofs.Ytohilfkdfcihgaa.DictW

set_option linter.unusedVariables false
set_option linter.unusedSimpArgs false
namespace Go.Proofs.Ytohilfkdfcihgaa.DictT
open Go.RowKit Go.Proofs.Ytohilfkdfcihgaa.PDi Go.Proofs.YtohilfkdfcihgaaW.PrintWords Go.Proofs.YtohilfkdfcihgaaW.PrintLast Go.Proofs.YtohilfkdfcihgaaW.PrintMore

theorem spec_copy (T : List Int) (E : List S62) (live : Int) (hT : T.length ≤ 1000000) (hE : E.length ≤ 1000000) : spec_l7Copy.f T E live = some (T, E, live) := by
  unfold spec_l7Copy.f
  simp only [Option.bind_some, List.nil_append, List.length_nil, Nat.zero_add]
  rw [if_pos (by omega), if_pos (by omega)]

/-- The place that a search finds lies in the entries. -/
theorem find_in {n : Nat} {E : List S62} {T : List Int} (hI : Inv n E E.length T) (h : Int) (hn : 0 < n) (J : Nat) : rd T (path h n J) < E.length := by
  have hr := path_range h n (by omega) J
  exact (hI.hi _ (rd_mem T _ hr.1 (by rw [hI.len]; exact hr.2))).2

theorem tab_append (n : Nat) : ∀ (A B : List S62) (i : Int) (T : List Int), tab n (A ++ B) i T = (tab n A i T).bind fun T' => tab n B (i + (A.length : Int)) T'
  | [], B, i, T => by simp [tab]
  | e :: A, B, i, T => by
    simp only [List.cons_append, tab]
    rw [Option.bind_assoc]
    congr 1
    funext T'
    rw [tab_append n A B (i + 1) T']
    congr 1
    funext T''
    congr 1
    rw [List.length_cons]
    omega

theorem tab_more (n : Nat) (E : List S62) (e : S62) (Z T : List Int) (h : tab n E 0 Z = some T) : tab n (E ++ [e]) 0 Z = lay1 n T E.length e.f0 := by
  rw [tab_append, h]
  simp only [Option.bind_some, tab, Int.zero_add, Option.bind_fun_some]

theorem put2_eq (T : List Int) (E : List S62) (live hash key val : Int) : put2 T E live hash key val = (lay1 T.length T E.length hash).bind fun T' => some (T', E ++ [⟨hash, key, val, false⟩], live + 1, true) := rfl

def alive (e : S62) : Bool := !e.f3

theorem reLay_eq (n : Nat) : ∀ (E : List S62) (T : List Int) (acc : List S62), T.length = n → reLay T acc E = (tab n (E.filter alive) acc.length T).bind fun T' => some (T', acc ++ E.filter alive)
  | [], T, acc, h => by simp [reLay, tab]
  | e :: r, T, acc, h => by
    simp only [reLay]
    by_cases h3 : e.f3 = true
    · rw [if_pos h3, reLay_eq n r T acc h, List.filter_cons_of_neg (by simp [alive, h3])]
    · have h3' : alive e = true := by simpa [alive] using h3
      rw [if_neg h3, List.filter_cons_of_pos h3', h]
      simp only [tab]
      rw [Option.bind_assoc]
      show (lay1 n T acc.length e.f0).bind _ = _
      cases hl : lay1 n T acc.length e.f0 with
      | none => rfl
      | some T' =>
        simp only [Option.bind_some]
        have hl' : T'.length = n := (probe_lay_length _ _ _ _ _ _ _ _ hl).trans h
        rw [reLay_eq n r T' (acc ++ [e]) hl', List.length_append]
        congr 1
        · funext X
          simp

theorem alive_count : ∀ E : List S62, ((E.filter alive).length : Int) = cntI E
  | [] => rfl
  | e :: r => by
    have := alive_count r
    simp only [cntI]
    by_cases h3 : e.f3 = true
    · rw [if_pos h3, List.filter_cons_of_neg (by simp [alive, h3]), this]
      omega
    · rw [if_neg h3, List.filter_cons_of_pos (by simpa [alive] using h3), List.length_cons]
      omega

theorem put_l1 (hash key val N live : Int) (T : List Int) (E : List S62) (hE : E.length ≤ 1000000) (d : Nat) : ∀ (k i : Nat) (acc : List S62), i + d = E.length → acc.length ≤ i →
    spec_l7Put.l1 (k + d + 1) hash key val N acc i T E live = (spec_l7Table.f k (acc ++ (E.drop i).filter alive ++ [⟨hash, key, val, false⟩]) N).bind fun t => some (t, acc ++ (E.drop i).filter alive ++ [⟨hash, key, val, false⟩], wrap64 (live + 1), true) := by
  induction d with
  | zero =>
    intro k i acc h1 h2
    simp only [spec_l7Put.l1]
    rw [if_neg (by omega), if_pos (by omega), List.drop_of_length_le (by omega)]
    simp
  | succ d ih =>
    intro k i acc h1 h2
    have e : k + (d + 1) + 1 = (k + d + 1) + 1 := by omega
    rw [e]
    have ih0 := ih k (i + 1) acc (by omega) (by omega)
    have ih1 := ih k (i + 1) (acc ++ [rd_T62 E i]) (by omega) (by simp; omega)
    generalize k + d + 1 = q at *
    simp only [spec_l7Put.l1]
    rw [if_pos (by omega), if_pos (by omega), wrap_in ((i : Int) + 1) (by omega) (by omega), drop_at E i (by omega)]
    have e1 : (i : Int) + 1 = ((i + 1 : Nat) : Int) := by omega
    rw [e1]
    by_cases h3 : (rd_T62 E i).f3 = true
    · rw [if_pos h3, ih0, List.filter_cons_of_neg (by simp [alive, h3])]
    · rw [if_neg h3, if_pos (by omega), List.filter_cons_of_pos (by simpa [alive] using h3)]
      show spec_l7Put.l1 q hash key val N (acc ++ [rd_T62 E i]) _ T E live = _
      rw [ih1]
      simp only [List.append_assoc, List.singleton_append, List.cons_append, List.nil_append]

theorem grow_both (hash key val live : Int) (T : List Int) (E : List S62) (hl0 : 0 ≤ live) (hl1 : live ≤ 65536) (d : Nat) : ∀ m : Nat, m + d = 18 →
    ∃ e, e ≤ d ∧ (∀ f, growO (f + d + 1) ((2 ^ m : Nat) : Int) live = some ((2 ^ (m + e) : Nat) : Int)) ∧ 3 * live < ((2 ^ (m + e) : Nat) : Int) ∧
      ∀ k, spec_l7Put.l0 (k + e + 1) hash key val ((2 ^ m : Nat) : Int) T E live = if ((2 ^ (m + e) : Nat) : Int) > 65536 then some (T, E, live, false) else spec_l7Put.l1 k hash key val ((2 ^ (m + e) : Nat) : Int) [] 0 T E live := by
  induction d with
  | zero =>
    intro m h
    obtain rfl : m = 18 := by omega
    have h18 : ((2 ^ 18 : Nat) : Int) = 262144 := rfl
    refine ⟨0, by omega, fun f => ?_, ?_, fun k => ?_⟩
    · simp only [growO, Nat.add_zero]
      rw [if_neg (by rw [h18]; omega)]
    · rw [Nat.add_zero, h18]
      omega
    · simp only [spec_l7Put.l0, Nat.add_zero]
      rw [wrap_in (3 * live) (by omega) (by omega), if_neg (by rw [h18]; omega)]
  | succ d ih =>
    intro m h
    by_cases hc : ((2 ^ m : Nat) : Int) ≤ 3 * live
    · obtain ⟨e, he, hg, hb, hs⟩ := ih (m + 1) (by omega)
      have e2 : ((2 ^ m : Nat) : Int) * 2 = ((2 ^ (m + 1) : Nat) : Int) := by rw [Nat.pow_succ]; omega
      have e3 : m + (e + 1) = m + 1 + e := by omega
      refine ⟨e + 1, by omega, fun f => ?_, ?_, fun k => ?_⟩
      · have := hg f
        have e4 : f + (d + 1) + 1 = (f + d + 1) + 1 := by omega
        rw [e4]
        generalize f + d + 1 = q at *
        simp only [growO]
        rw [if_pos hc, e2, this, e3]
      · rw [e3]
        exact hb
      · have := hs k
        have e4 : k + (e + 1) + 1 = (k + e + 1) + 1 := by omega
        rw [e4]
        generalize k + e + 1 = q at *
        simp only [spec_l7Put.l0]
        rw [wrap_in (3 * live) (by omega) (by omega), if_pos hc, e2, wrap_in _ (Int.le_trans (by decide) (Int.natCast_nonneg _)) (by rw [← e2]; omega), this, e3]
    · refine ⟨0, by omega, fun f => ?_, ?_, fun k => ?_⟩
      · simp only [growO, Nat.add_zero]
        rw [if_neg hc]
      · rw [Nat.add_zero]
        omega
      · simp only [spec_l7Put.l0, Nat.add_zero]
        rw [wrap_in (3 * live) (by omega) (by omega), if_neg hc]

/-! ### A dict in good order -/
structure Good (T : List Int) (E : List S62) (live : Int) : Prop where
  pw : ∃ m, 3 ≤ m ∧ m ≤ 16 ∧ T.length = 2 ^ m
  le : (E.length : Int) ≤ 2 * T.length / 3
  h : ∀ e ∈ E, 0 ≤ e.f0 ∧ e.f0 ≤ 18446744073709551615
  t : tab T.length E 0 (List.replicate T.length (-1)) = some T
  inv : Inv T.length E E.length T
  c : cntI E = live

theorem Good.sizes {T : List Int} {E : List S62} {live : Int} (h : Good T E live) : 8 ≤ T.length ∧ T.length ≤ 65536 ∧ E.length < T.length ∧ 0 ≤ live ∧ live ≤ E.length := by
  obtain ⟨m, m3, m16, hm⟩ := h.pw
  have h6 : T.length ≤ 65536 := by
    rw [hm]
    exact Nat.pow_le_pow_right (show 0 < 2 by omega) (show m ≤ 16 by omega)
  have h8 : 8 ≤ T.length := by
    rw [hm]
    exact Nat.pow_le_pow_right (show 0 < 2 by omega) (show 3 ≤ m by omega)
  have hle := h.le
  have := cntI_range E
  rw [h.c] at this
  clear hm
  exact ⟨h8, h6, by omega, this.1, this.2⟩

theorem tab_same (n : Nat) : ∀ (A B : List S62) (i : Int) (T : List Int), A.map S62.f0 = B.map S62.f0 → tab n A i T = tab n B i T
  | [], [], _, _, _ => rfl
  | [], b :: B, _, _, h => by simp at h
  | a :: A, [], _, _, h => by simp at h
  | a :: A, b :: B, i, T, h => by
    simp only [List.map_cons, List.cons.injEq] at h
    simp only [tab]
    rw [h.1]
    congr 1
    funext T'
    exact tab_same n A B (i + 1) T' h.2

theorem f0_at (A B : List S62) (h : A.map S62.f0 = B.map S62.f0) (j : Nat) (hj : j < A.length) : (rd_T62 A j).f0 = (rd_T62 B j).f0 := by
  have hl : A.length = B.length := by
    have := congrArg List.length h
    simpa using this
  have := congrArg (fun l => l[j]?) h
  simp only [List.getElem?_map, List.getElem?_eq_getElem hj, List.getElem?_eq_getElem (show j < B.length by omega), Option.map_some, Option.some.injEq] at this
  simp only [rd_T62, Int.toNat_natCast, List.getD_eq_getElem?_getD, List.getElem?_eq_getElem hj, List.getElem?_eq_getElem (show j < B.length by omega), Option.getD_some]
  exact this

theorem inv_same {n : Nat} {A B : List S62} {T : List Int} (h : A.map S62.f0 = B.map S62.f0) (hI : Inv n A A.length T) : Inv n B B.length T := by
  have hl : B.length = A.length := by
    have := congrArg List.length h
    simpa using this.symm
  refine ⟨hI.len, fun x hx => by rw [hl]; exact hI.hi x hx, by rw [hl]; exact hI.cnt, fun j hj => ?_⟩
  have := hI.at_ j (by omega)
  rw [f0_at A B h j (by omega)] at this
  exact this

theorem map_set_same (E : List S62) (p : Nat) (x : S62) (hp : p < E.length) (h : x.f0 = (rd_T62 E p).f0) : E.map S62.f0 = (E.set p x).map S62.f0 := by
  apply List.ext_getElem?
  intro j
  rw [List.getElem?_map, List.getElem?_map, List.getElem?_set]
  by_cases hj : p = j
  · subst hj
    rw [if_pos rfl, if_pos hp, List.getElem?_eq_getElem hp]
    simp only [Option.map_some]
    rw [h]
    simp [rd_T62, List.getElem?_eq_getElem hp]
  · rw [if_neg hj]

theorem cntI_set : ∀ (E : List S62) (p : Nat) (x : S62), p < E.length → cntI (E.set p x) + (if (rd_T62 E p).f3 = true then 0 else 1) = cntI E + (if x.f3 = true then 0 else 1)
  | [], p, x, h => by simp at h
  | e :: E, 0, x, _ => by
    have : rd_T62 (e :: E) ((0 : Nat) : Int) = e := rfl
    rw [this]
    simp only [List.set_cons_zero, cntI]
    omega
  | e :: E, p + 1, x, h => by
    have : rd_T62 (e :: E) ((p + 1 : Nat) : Int) = rd_T62 E (p : Int) := by simp [rd_T62]
    rw [this]
    have ih := cntI_set E p x (by simpa using h)
    simp only [List.set_cons_succ, cntI]
    omega

theorem cntI_append : ∀ (A B : List S62), cntI (A ++ B) = cntI A + cntI B
  | [], B => by simp [cntI]
  | a :: A, B => by
    have := cntI_append A B
    simp only [List.cons_append, cntI]
    omega

theorem h_set {E : List S62} (hE : ∀ e ∈ E, 0 ≤ e.f0 ∧ e.f0 ≤ 18446744073709551615) (p : Nat) (x : S62) (hx : 0 ≤ x.f0 ∧ x.f0 ≤ 18446744073709551615) : ∀ e ∈ E.set p x, 0 ≤ e.f0 ∧ e.f0 ≤ 18446744073709551615 := by
  intro e he
  rcases List.mem_or_eq_of_mem_set he with h | h
  · exact hE e h
  · rw [h]
    exact hx

theorem Good.set {T : List Int} {E : List S62} {live : Int} (h : Good T E live) (p : Nat) (x : S62) (hp : p < E.length) (h0 : x.f0 = (rd_T62 E p).f0) : Good T (E.set p x) (live + (if x.f3 = true then 0 else 1) - (if (rd_T62 E p).f3 = true then 0 else 1)) := by
  have hms := map_set_same E p x hp h0
  refine ⟨h.pw, by rw [List.length_set]; exact h.le, h_set h.h p x ?_, ?_, inv_same hms h.inv, ?_⟩
  · rw [h0]
    refine h.h _ ?_
    simp only [rd_T62, Int.toNat_natCast, List.getD_eq_getElem?_getD, List.getElem?_eq_getElem hp, Option.getD_some]
    exact List.getElem_mem _
  · rw [← tab_same _ _ _ _ _ hms]
    exact h.t
  · have := cntI_set E p x hp
    rw [h.c] at this
    omega

theorem Good.find {T : List Int} {E : List S62} {live : Int} (h : Good T E live) (hash key : Int) (h0 : 0 ≤ hash) (h1 : hash ≤ 18446744073709551615) :
    ∃ p q : Int, impl_yfind.f T E live hash key = some (p, q) ∧ (∀ k, 100000 ≤ k → spec_l7Find.f k T E live hash key = some (p, q)) ∧ p < E.length ∧ (p < 0 → p = -1) ∧ (0 ≤ p → (rd_T62 E p).f3 = false ∧ (rd_T62 E p).f0 = hash ∧ (rd_T62 E p).f1 = key) ∧ 1 ≤ q := by
  obtain ⟨m, m3, m16, hm⟩ := h.pw
  obtain ⟨s8, s6, sl, l0, l1⟩ := h.sizes
  obtain ⟨J, hJ, hs, hmin, hf1, hf2⟩ := find_both m T.length hm s6 E sl T h.inv live hash key h0 h1
  have hfi := find_in h.inv hash (by clear hm; omega) J
  refine ⟨_, _, hf1, hf2, ?_, ?_, ?_, by clear hm; omega⟩
  · split
    · clear hm
      omega
    · exact hfi
  · intro hp
    split at hp
    · rename_i hc
      rw [if_pos hc]
    · omega
  · intro hp
    split at hp
    · omega
    · rename_i hc
      rw [if_neg hc]
      exact hs.resolve_left hc

theorem Good.cut {T : List Int} {E : List S62} {live : Int} (h : Good T E live) (hash key : Int) (h0 : 0 ≤ hash) (h1 : hash ≤ 18446744073709551615) :
    ∃ r : List Int × List S62 × Int × Bool, ycutM T E live hash key = some r ∧ (∀ k, 6000000000 ≤ k → spec_l7Cut.f k T E live hash key = some r) ∧ Good r.1 r.2.1 r.2.2.1 := by
  obtain ⟨s8, s6, sl, l0, l1⟩ := h.sizes
  obtain ⟨p, q, hf1, hf2, hpl, hpn, hpp, _⟩ := h.find hash key h0 h1
  by_cases hp : p < 0
  · refine ⟨(T, E, live, false), ?_, fun k hk => ?_, h⟩
    · unfold ycutM
      rw [if_pos ⟨l0, by omega⟩, hf1]
      simp only [Option.bind_some]
      rw [if_neg (by omega)]
    · unfold spec_l7Cut.f
      rw [spec_copy T E live (by omega) (by omega)]
      simp only [Option.bind_some]
      rw [hf2 k (by omega)]
      simp only [Option.bind_some]
      rw [if_pos hp]
  · obtain ⟨p3, p0, p1⟩ := hpp (by omega)
    have hpt : (p.toNat : Int) = p := Int.toNat_of_nonneg (by omega)
    have hg := h.set p.toNat ⟨hash, 0, 0, true⟩ (by omega) (by rw [hpt]; exact p0.symm)
    rw [hpt, p3] at hg
    refine ⟨(T, E.set p.toNat ⟨hash, 0, 0, true⟩, live - 1, true), ?_, fun k hk => ?_, ?_⟩
    · unfold ycutM
      rw [if_pos ⟨l0, by omega⟩, hf1]
      simp only [Option.bind_some]
      rw [if_pos (by omega), if_pos hpl]
    · unfold spec_l7Cut.f
      rw [spec_copy T E live (by omega) (by omega)]
      simp only [Option.bind_some]
      rw [hf2 k (by omega)]
      simp only [Option.bind_some]
      rw [if_neg hp, if_pos (by omega), if_pos hpl, wrap_in (live - 1) (by omega) (by omega)]
    · simpa using hg

set_option maxHeartbeats 1000000 in
theorem Good.put {T : List Int} {E : List S62} {live : Int} (h : Good T E live) (hash key val : Int) (h0 : 0 ≤ hash) (h1 : hash ≤ 18446744073709551615) :
    ∃ r : List Int × List S62 × Int × Bool, yputM T E live hash key val = some r ∧ (∀ k, 6000000000 ≤ k → spec_l7Put.f k T E live hash key val = some r) ∧ Good r.1 r.2.1 r.2.2.1 := by
  obtain ⟨m, m3, m16, hm⟩ := h.pw
  obtain ⟨s8, h6, hlt, l0, l1⟩ := h.sizes
  obtain ⟨p, q, hf1, hf2, hpl, hpn, hpp, _⟩ := h.find hash key h0 h1
  have hle := h.le
  have hH := h.h
  have ht := h.t
  have hI := h.inv
  have hc := h.c
  have hcond : 0 ≤ live ∧ live ≤ 1000000 ∧ E.length ≤ 1000000 ∧ (∀ e ∈ E, 0 ≤ e.f0 ∧ e.f0 ≤ 18446744073709551615) ∧ T.length ≤ 1000000 ∧ 0 < T.length ∧ 0 ≤ hash ∧ hash ≤ 18446744073709551615 := by
    clear hm
    refine ⟨?_, ?_, ?_, hH, ?_, ?_, h0, h1⟩
    · omega
    · omega
    · omega
    · omega
    · omega
  have HW2 : Aside0 (wrap64 (Int.tdiv (wrap64 ((T.length : Int) * 2)) 3) = 2 * T.length / 3) := ⟨by
    clear hm
    have hw1 : wrap64 ((T.length : Int) * 2) = (T.length : Int) * 2 := wrap_in _ (by omega) (by omega)
    rw [hw1, Int.tdiv_eq_ediv_of_nonneg (by omega), wrap_in _ (by omega) (by omega)]
    omega⟩
  have hY : yputM T E live hash key val = (if 0 ≤ p then (if p < E.length then some (T, E.set p.toNat ⟨(rd_T62 E p).f0, (rd_T62 E p).f1, val, (rd_T62 E p).f3⟩, live, true) else none)
      else if 2 * (T.length : Int) / 3 ≤ E.length then (growO 40 8 live).bind fun N => if 65536 < N then some (T, E, live, false) else (reLay (List.replicate N.toNat (-1)) [] E).bind fun p => put2 p.1 p.2 live hash key val
      else put2 T E live hash key val) := by
    unfold yputM
    rw [if_pos hcond, hf1]
    rfl
  have hZ : ∀ k, 6000000000 ≤ k → spec_l7Put.f k T E live hash key val = (if p ≥ 0 then (if 0 ≤ p then (if p < (E.length : Int) then (some (T, (E.set (p : Int).toNat (⟨(rd_T62 E p).f0, (rd_T62 E p).f1, val, (rd_T62 E p).f3⟩ : S62)), live, true)) else (none)) else (none)) else (if (E.length : Int) ≥ 2 * T.length / 3 then (spec_l7Put.l0 k hash key val 8 T E live) else (if E.length < 4398046511104 then ((spec_l7Table.f k (E ++ [(⟨hash, key, val, false⟩ : S62)]) (T.length : Int)).bind fun t290 => (some (t290, E ++ [(⟨hash, key, val, false⟩ : S62)], wrap64 (live + 1), true))) else (none)))) := by
    intro k hk
    unfold spec_l7Put.f
    rw [spec_copy T E live (by omega) (by omega)]
    simp only [Option.bind_some]
    rw [hf2 k (by omega), HW2.out]
    rfl
  clear hf1 hf2 HW2
  have he : ∀ F : List S62, (∀ e ∈ F, 0 ≤ e.f0 ∧ e.f0 ≤ 18446744073709551615) → ∀ e ∈ F ++ [(⟨hash, key, val, false⟩ : S62)], 0 ≤ e.f0 ∧ e.f0 ≤ 18446744073709551615 := by
    intro F hF e he
    rcases List.mem_append.1 he with h | h
    · exact hF e h
    · rw [List.mem_singleton.1 h]
      exact ⟨h0, h1⟩
  by_cases hp : p < 0
  · rw [if_neg (by omega)] at hY
    by_cases hbig : 2 * (T.length : Int) / 3 ≤ E.length
    · rw [if_pos hbig] at hY
      obtain ⟨e, he5, hg, h3, hs0⟩ := grow_both hash key val live T E l0 (by omega) 15 3 rfl
      have hg := hg 24
      have e8 : ((2 ^ 3 : Nat) : Int) = 8 := rfl
      rw [e8] at hg hs0
      have hZ : ∀ k, 6000000000 ≤ k → spec_l7Put.f k T E live hash key val = if ((2 ^ (3 + e) : Nat) : Int) > 65536 then some (T, E, live, false) else spec_l7Put.l1 (k - e - 1) hash key val ((2 ^ (3 + e) : Nat) : Int) [] 0 T E live := by
        intro k hk
        rw [hZ k hk, if_neg (by omega), if_pos (by omega), ← hs0]
        congr 1
        omega
      rw [show (40 : Nat) = 24 + 15 + 1 from rfl, hg] at hY
      simp only [Option.bind_some] at hY
      by_cases hN : ((2 ^ (3 + e) : Nat) : Int) > 65536
      · rw [if_pos hN] at hY
        exact ⟨_, hY, fun k hk => by rw [hZ k hk, if_pos hN], h⟩
      · rw [if_neg hN, Int.toNat_natCast] at hY
        have hN8 : 8 ≤ 2 ^ (3 + e) := Nat.pow_le_pow_right (show 0 < 2 by omega) (show 3 ≤ 3 + e by omega)
        have he16 : 3 + e ≤ 16 := by
          refine Classical.byContradiction fun hc16 => ?_
          have : 2 ^ 17 ≤ 2 ^ (3 + e) := Nat.pow_le_pow_right (show 0 < 2 by omega) (show 17 ≤ 3 + e by omega)
          have h17 : 2 ^ 17 = 131072 := rfl
          omega
        generalize hNN : 2 ^ (3 + e) = N at *
        have hfl : ((E.filter alive).length : Int) = live := (alive_count E).trans hc
        have hcF : cntI (E.filter alive) = live := by
          rw [← alive_count (E.filter alive), List.filter_filter]
          simpa using hfl
        have hfH : ∀ x ∈ E.filter alive, 0 ≤ x.f0 ∧ x.f0 ≤ 18446744073709551615 := fun x hx => hH x (List.mem_filter.1 hx).1
        generalize hF : E.filter alive = F at *
        obtain ⟨T1, hT1, hI1'⟩ := tab_ok (3 + e) N hNN.symm (by omega) F (by omega) hfH F.length 0 (by omega) _ (inv_zero N F)
        rw [List.drop_zero] at hT1
        obtain ⟨T2, hT2, hI2'⟩ := tab_ok (3 + e) N hNN.symm (by omega) (F ++ [⟨hash, key, val, false⟩]) (by simp; omega) (he F hfH) (F.length + 1) 0 (by simp) _ (inv_zero N _)
        rw [List.drop_zero] at hT2
        have hr := reLay_eq N E (List.replicate N (-1)) [] (by simp)
        rw [hF] at hr
        have hT1' : tab N F (([] : List S62).length) (List.replicate N (-1)) = some T1 := hT1
        rw [hT1'] at hr
        simp only [Option.bind_some, List.nil_append] at hr
        rw [hr] at hY
        simp only [Option.bind_some] at hY
        have hmore := tab_more N F ⟨hash, key, val, false⟩ _ _ hT1
        have hT2' : tab N (F ++ [⟨hash, key, val, false⟩]) 0 (List.replicate N (-1)) = some T2 := hT2
        rw [hT2'] at hmore
        rw [put2_eq, hI1'.len, ← hmore] at hY
        simp only [Option.bind_some] at hY
        refine ⟨_, hY, fun k hk => ?_, ?_⟩
        · rw [hZ k hk, if_neg hN]
          have hl := put_l1 hash key val N live T E (by omega) E.length (k - e - 2 - E.length) 0 [] (by omega) (by simp)
          have ek : k - e - 2 - E.length + E.length + 1 = k - e - 1 := by omega
          rw [ek, List.drop_zero, hF] at hl
          have e0 : ((0 : Nat) : Int) = 0 := rfl
          rw [e0] at hl
          rw [hl, List.nil_append, spec_table (3 + e) N hNN.symm (by omega) _ (by simp; omega) (he F hfH) _ (by omega), hT2', wrap_in (live + 1) (by omega) (by omega)]
          rfl
        · have hl2 : T2.length = N := hI2'.len
          refine ⟨⟨3 + e, by omega, he16, hl2.trans hNN.symm⟩, ?_, he F hfH, ?_, ?_, ?_⟩
          · show ((F ++ [_]).length : Int) ≤ 2 * (T2.length : Int) / 3
            rw [hl2, List.length_append]
            simp only [List.length_singleton]
            omega
          · show tab T2.length _ 0 (List.replicate T2.length (-1)) = some T2
            rw [hl2]
            exact hT2'
          · show Inv T2.length _ _ T2
            rw [hl2]
            exact hI2'
          · show cntI (F ++ [_]) = live + 1
            rw [cntI_append, hcF]
            rfl
    · rw [if_neg hbig] at hY
      obtain ⟨T2, hT2, hI2'⟩ := tab_ok m T.length hm h6 (E ++ [⟨hash, key, val, false⟩]) (by simp; omega) (he E hH) (E.length + 1) 0 (by simp) _ (inv_zero T.length _)
      rw [List.drop_zero] at hT2
      have hT2' : tab T.length (E ++ [⟨hash, key, val, false⟩]) 0 (List.replicate T.length (-1)) = some T2 := hT2
      have hmore := tab_more T.length E ⟨hash, key, val, false⟩ _ _ ht
      rw [hT2'] at hmore
      rw [put2_eq, ← hmore] at hY
      simp only [Option.bind_some] at hY
      refine ⟨_, hY, fun k hk => ?_, ?_⟩
      · rw [hZ k hk, if_neg (by omega), if_neg (by omega), if_pos (by omega), spec_table m T.length hm h6 _ (by simp; omega) (he E hH) k (by omega), hT2', wrap_in (live + 1) (by omega) (by omega)]
        rfl
      · have hl2 : T2.length = T.length := hI2'.len
        refine ⟨⟨m, m3, m16, hl2.trans hm⟩, ?_, he E hH, ?_, ?_, ?_⟩
        · show ((E ++ [_]).length : Int) ≤ 2 * (T2.length : Int) / 3
          rw [hl2, List.length_append]
          simp only [List.length_singleton]
          clear hm
          omega
        · show tab T2.length _ 0 (List.replicate T2.length (-1)) = some T2
          rw [hl2]
          exact hT2'
        · show Inv T2.length _ _ T2
          rw [hl2]
          exact hI2'
        · show cntI (E ++ [_]) = live + 1
          rw [cntI_append, hc]
          rfl
  · rw [if_pos (by omega), if_pos hpl] at hY
    have hpt : (p.toNat : Int) = p := Int.toNat_of_nonneg (by omega)
    have hg := h.set p.toNat ⟨(rd_T62 E p).f0, (rd_T62 E p).f1, val, (rd_T62 E p).f3⟩ (by omega) (by rw [hpt])
    rw [hpt] at hg
    refine ⟨_, hY, fun k hk => by rw [hZ k hk, if_pos (by omega), if_pos (by omega), if_pos hpl], ?_⟩
    have e : live + (if (rd_T62 E p).f3 = true then 0 else 1) - (if (rd_T62 E p).f3 = true then 0 else 1) = live := by omega
    simp only [e] at hg
    exact hg

theorem good_new : Good (List.replicate 8 (-1)) [] 0 := by
  refine ⟨⟨3, by omega, by omega, rfl⟩, by decide, fun e he => by simp at he, rfl, inv_zero 8 [], rfl⟩

/-! ### The run -/
theorem num_some (b : Bool) : spec_l7Num.f b = some (ans b) := by
  cases b <;> rfl

theorem op_at (l : List S37) (i : Nat) (hi : i < l.length) : l.drop i = rd_T37 l i :: l.drop (i + 1) := by
  rw [List.drop_eq_getElem_cons hi]
  congr 1
  simp [rd_T37, List.getElem?_eq_getElem hi]

/-- One operation. -/
theorem op_both {T : List Int} {E : List S62} {live : Int} (h : Good T E live) (o : S37) (h0 : 0 ≤ o.f1) (h1 : o.f1 ≤ 18446744073709551615) :
    ∃ (T' : List Int) (E' : List S62) (live' v : Int), runOp o T E live = some (T', E', live', v) ∧ Good T' E' live' ∧
      ∀ (k : Nat) (l : List S37) (i : Nat) (O : List Int), 6000000000 ≤ k → i < l.length → l.length ≤ 5000 → rd_T37 l i = o → O.length ≤ 5000 → spec_DictRun.l0 (k + 1) l O i T E live = spec_DictRun.l0 k l (O ++ [v]) ((i + 1 : Nat) : Int) T' E' live' := by
  have hst : ∀ (k : Nat) (l : List S37) (i : Nat) (O : List Int), i < l.length → l.length ≤ 5000 → wrap64 ((i : Int) + 1) = ((i + 1 : Nat) : Int) := by
    intro k l i O hi hl
    rw [wrap_in _ (by omega) (by omega)]
    omega
  unfold runOp
  by_cases k1 : o.f0 = 1
  · obtain ⟨⟨T2, E2, l2, b⟩, hp1, hp2, hg⟩ := h.put o.f1 o.f2 o.f3 h0 h1
    refine ⟨T2, E2, l2, ans b, by rw [if_pos k1, hp1]; rfl, hg, ?_⟩
    intro k l i O hk hi hl ho hO
    simp only [spec_DictRun.l0]
    rw [if_pos (by omega), if_pos (by omega), ho, if_pos k1, hp2 k hk]
    simp only [Option.bind_some, num_some]
    rw [if_pos (by omega), hst k l i O hi hl]
  · by_cases k2 : o.f0 = 2
    · obtain ⟨p, q, hf1, hf2, hpl, hpn, hpp, _⟩ := h.find o.f1 o.f2 h0 h1
      by_cases hp : 0 ≤ p
      · refine ⟨T, E, live, (rd_T62 E p).f2, by rw [if_neg k1, if_pos k2, hf1]; simp only [Option.bind_some]; rw [if_pos hp, if_pos hpl], h, ?_⟩
        intro k l i O hk hi hl ho hO
        simp only [spec_DictRun.l0]
        rw [if_pos (by omega), if_pos (by omega), ho, if_neg k1, if_pos k2, hf2 k (by omega)]
        simp only [Option.bind_some]
        rw [if_pos hp, if_pos hp, if_pos hpl, if_pos (by omega), hst k l i O hi hl]
      · refine ⟨T, E, live, -1, by rw [if_neg k1, if_pos k2, hf1]; simp only [Option.bind_some]; rw [if_neg hp], h, ?_⟩
        intro k l i O hk hi hl ho hO
        simp only [spec_DictRun.l0]
        rw [if_pos (by omega), if_pos (by omega), ho, if_neg k1, if_pos k2, hf2 k (by omega)]
        simp only [Option.bind_some]
        rw [if_neg hp, if_pos (by omega), hst k l i O hi hl]
    · by_cases k3 : o.f0 = 3
      · obtain ⟨⟨T2, E2, l2, b⟩, hp1, hp2, hg⟩ := h.cut o.f1 o.f2 h0 h1
        refine ⟨T2, E2, l2, ans b, by rw [if_neg k1, if_neg k2, if_pos k3, hp1]; rfl, hg, ?_⟩
        intro k l i O hk hi hl ho hO
        simp only [spec_DictRun.l0]
        rw [if_pos (by omega), if_pos (by omega), ho, if_neg k1, if_neg k2, if_pos k3, hp2 k hk]
        simp only [Option.bind_some, num_some]
        rw [if_pos (by omega), hst k l i O hi hl]
      · by_cases k4 : o.f0 = 4
        · obtain ⟨p, q, hf1, hf2, hpl, hpn, hpp, _⟩ := h.find o.f1 o.f2 h0 h1
          refine ⟨T, E, live, q, by rw [if_neg k1, if_neg k2, if_neg k3, if_pos k4, hf1]; rfl, h, ?_⟩
          intro k l i O hk hi hl ho hO
          simp only [spec_DictRun.l0]
          rw [if_pos (by omega), if_pos (by omega), ho, if_neg k1, if_neg k2, if_neg k3, if_pos k4, hf2 k (by omega)]
          simp only [Option.bind_some]
          rw [if_pos (by omega), hst k l i O hi hl]
        · by_cases k5 : o.f0 = 5
          · refine ⟨T, E, live, (T.length : Int), by rw [if_neg k1, if_neg k2, if_neg k3, if_neg k4, if_pos k5], h, ?_⟩
            intro k l i O hk hi hl ho hO
            simp only [spec_DictRun.l0]
            rw [if_pos (by omega), if_pos (by omega), ho, if_neg k1, if_neg k2, if_neg k3, if_neg k4, if_pos k5, if_pos (by omega), hst k l i O hi hl]
          · refine ⟨T, E, live, -2, by rw [if_neg k1, if_neg k2, if_neg k3, if_neg k4, if_neg k5], h, ?_⟩
            intro k l i O hk hi hl ho hO
            simp only [spec_DictRun.l0]
            rw [if_pos (by omega), if_pos (by omega), ho, if_neg k1, if_neg k2, if_neg k3, if_neg k4, if_neg k5, if_pos (by omega), hst k l i O hi hl]

theorem run_both (l : List S37) (hl : l.length ≤ 5000) (hw : ∀ o ∈ l, 0 ≤ o.f1 ∧ o.f1 ≤ 18446744073709551615) (d : Nat) : ∀ (i : Nat) (T : List Int) (E : List S62) (live : Int) (O : List Int), i + d = l.length → O.length = i → Good T E live →
    ∃ r, runAll (l.drop i) T E live O = some r ∧ r.length ≤ 5000 ∧ ∀ k, 6000000001 + d ≤ k → spec_DictRun.l0 k l O i T E live = some r := by
  induction d with
  | zero =>
    intro i T E live O h1 h2 hg
    refine ⟨O, by rw [List.drop_of_length_le (by omega)]; rfl, by omega, fun k hk => ?_⟩
    obtain ⟨k, rfl⟩ : ∃ q, k = q + 1 := ⟨k - 1, by omega⟩
    simp only [spec_DictRun.l0]
    rw [if_neg (by omega)]
  | succ d ih =>
    intro i T E live O h1 h2 hg
    have hm : rd_T37 l i ∈ l := by
      simp only [rd_T37, Int.toNat_natCast, List.getD_eq_getElem?_getD, List.getElem?_eq_getElem (show i < l.length by omega), Option.getD_some]
      exact List.getElem_mem _
    obtain ⟨T', E', live', v, ho, hg', hs⟩ := op_both hg (rd_T37 l i) (hw _ hm).1 (hw _ hm).2
    obtain ⟨r, hr1, hr2, hr3⟩ := ih (i + 1) T' E' live' (O ++ [v]) (by omega) (by rw [List.length_append, h2]; rfl) hg'
    refine ⟨r, ?_, hr2, fun k hk => ?_⟩
    · rw [op_at l i (by omega)]
      simp only [runAll]
      rw [ho]
      exact hr1
    · obtain ⟨k, rfl⟩ : ∃ q, k = q + 1 := ⟨k - 1, by omega⟩
      rw [hs k l i O (by omega) (by omega) hl rfl (by omega)]
      exact hr3 k (by omega)

theorem new_some (k : Nat) (hk : 5000000000 ≤ k) : spec_NewDict.f k = some (List.replicate 8 (-1), [], 0) := by
  unfold spec_NewDict.f
  rw [show (8 : Int) = ((8 : Nat) : Int) from rfl, spec_table 3 8 rfl (by omega) [] (by simp) (fun e he => by simp at he) k hk]
  rfl

theorem dictRun_both (l : List S37) (hw : ∀ o ∈ l, 0 ≤ o.f1 ∧ o.f1 ≤ 18446744073709551615) : ∃ r, impl_DictRun.f l = some r ∧ r.length ≤ 5000 ∧ ∀ k, 7000000000 ≤ k → spec_DictRun.f k l = some r := by
  unfold impl_DictRun.f spec_DictRun.f
  by_cases hl : 5000 < l.length
  · refine ⟨[], by rw [if_pos hl], by simp, fun k hk => ?_⟩
    simp only [Option.bind_some]
    rw [if_pos (by omega)]
  · obtain ⟨r, h1, h2, h3⟩ := run_both l (by omega) hw l.length 0 (List.replicate 8 (-1)) [] 0 [] (by omega) rfl good_new
    rw [List.drop_zero] at h1
    refine ⟨r, by rw [if_neg hl]; exact h1, h2, fun k hk => ?_⟩
    simp only [Option.bind_some]
    rw [if_neg (by omega), new_some k (by omega)]
    exact h3 k (by omega)

/-! ### The copies and comparisons of operations -/
def cvo (e : S86) : S37 := ⟨e.f0, e.f1, e.f2, e.f3⟩

theorem rd86_at (x : List S86) (i : Nat) (h : i < x.length) : (x.map cvo)[i]? = some ⟨(rd_T86 x (i : Int)).f0, (rd_T86 x (i : Int)).f1, (rd_T86 x (i : Int)).f2, (rd_T86 x (i : Int)).f3⟩ := by
  simp [rd_T86, List.getElem?_eq_getElem h, cvo]

theorem toO_loop (x : List S86) (hn : x.length < 9000000000000000000) (d : Nat) : ∀ (k i : Nat) (y : List S37), x.length = i + d → y.length = x.length → d < k → y.take i = (x.map cvo).take i → laws_toDictOpS.l0 k x y (i : Int) = some (x.map cvo) := by
  induction d with
  | zero =>
    intro k i y h1 h3 h2 h4
    obtain ⟨k, rfl⟩ : ∃ m, k = m + 1 := ⟨k - 1, by omega⟩
    simp only [laws_toDictOpS.l0]
    rw [if_neg (by omega)]
    rw [List.take_of_length_le (by omega), List.take_of_length_le (by simp; omega)] at h4
    rw [h4]
  | succ d ih =>
    intro k i y h1 h3 h2 h4
    obtain ⟨k, rfl⟩ : ∃ m, k = m + 1 := ⟨k - 1, by omega⟩
    simp only [laws_toDictOpS.l0, laws_toDictOp.f, Option.bind_some]
    simp only [if_pos (show (i : Int) < (x.length : Int) by omega), if_pos (show (0 : Int) ≤ (i : Int) by omega), if_pos (show (i : Int) < (y.length : Int) by omega), Int.toNat_natCast]
    rw [DictW.wrap_succ i (by omega)]
    exact ih k (i + 1) _ (by omega) (by rw [List.length_set]; exact h3) (by omega) (DictW.take_set_succ h4 (by rw [List.length_map]; exact h3) (rd86_at x i (by omega)))

theorem toO_some (x : List S86) (hn : x.length ≤ 8796093022208) (k : Nat) (hk : x.length < k) : laws_toDictOpS.f k x = some (x.map cvo) := by
  unfold laws_toDictOpS.f
  rw [if_pos (by omega), if_pos (by omega)]
  exact toO_loop x (by omega) x.length k 0 _ (by omega) (by simp) hk (by simp)

theorem eqO_loop (x : List S37) (hn : x.length < 9000000000000000000) (d : Nat) : ∀ (k i : Nat), x.length = i + d → d < k → laws_eqDictOpS.l0 k x x (i : Int) = some true := by
  induction d with
  | zero =>
    intro k i h1 h2
    obtain ⟨k, rfl⟩ : ∃ m, k = m + 1 := ⟨k - 1, by omega⟩
    simp only [laws_eqDictOpS.l0]
    rw [if_neg (by omega)]
  | succ d ih =>
    intro k i h1 h2
    obtain ⟨k, rfl⟩ : ∃ m, k = m + 1 := ⟨k - 1, by omega⟩
    have he : ∀ a b c f, laws_eqDictOp.f a b c f a b c f = some true := fun a b c f => by simp [laws_eqDictOp.f]
    simp only [laws_eqDictOpS.l0, he, Option.bind_some]
    rw [if_pos (by omega), if_pos (by omega), if_pos (by omega), if_pos trivial, DictW.wrap_succ i (by omega)]
    exact ih k (i + 1) (by omega) (by omega)

theorem eqO_some (x : List S37) (hn : x.length < 9000000000000000000) (k : Nat) (hk : x.length < k) : laws_eqDictOpS.f k x x = some true := by
  unfold laws_eqDictOpS.f
  rw [if_pos rfl]
  exact eqO_loop x hn x.length k 0 (by omega) hk

theorem markO_loop (d : Nat) : ∀ (k i : Nat) (x : List S37) (v : Int), x.length = i + d → x.length < 1000000000000000000 → 0 ≤ v → v + 4 * d < 9000000000000000000 → d < k → ∃ y, laws_markDictOpS.l0 k x v (i : Int) = some (v + 4 * d, y) := by
  induction d with
  | zero =>
    intro k i x v h1 hx hv hvd h2
    obtain ⟨k, rfl⟩ : ∃ m, k = m + 1 := ⟨k - 1, by omega⟩
    simp only [laws_markDictOpS.l0]
    rw [if_neg (by omega)]
    exact ⟨x, by simp⟩
  | succ d ih =>
    intro k i x v h1 hx hv hvd h2
    obtain ⟨k, rfl⟩ : ∃ m, k = m + 1 := ⟨k - 1, by omega⟩
    simp only [laws_markDictOpS.l0, Option.bind_some]
    rw [if_pos (by omega), if_pos (by omega), DictW.wrap_succ i (by omega), Int.toNat_natCast, wrap_in (v + 1) (by omega) (by omega), wrap_in (v + 1 + 1) (by omega) (by omega), wrap_in (v + 1 + 1 + 1) (by omega) (by omega), wrap_in (v + 1 + 1 + 1 + 1) (by omega) (by omega)]
    have e4 : v + 1 + 1 + 1 + 1 = v + 4 := by omega
    have e5 : v + 4 * ((d + 1 : Nat) : Int) = v + 4 + 4 * (d : Int) := by omega
    rw [e4, e5]
    exact ih k (i + 1) _ (v + 4) (by simp only [List.length_set]; omega) (by simp only [List.length_set]; omega) (by omega) (by omega) (by omega)

theorem markO_some (x : List S37) (hn : x.length < 1000000000000000) (k : Nat) (hk : x.length < k) : ∃ y, laws_markDictOpS.f k x 1 = some (1 + 4 * (x.length : Int), y) := by
  unfold laws_markDictOpS.f
  exact markO_loop x.length k 0 x 1 (by omega) (by omega) (by omega) (by omega) hk

end Go.Proofs.Ytohilfkdfcihgaa.DictT
