/- The reference's search by a stack comes to what is reached. Plain law; no condition beyond those of the theorems. -/
import Derived.Test.YthpdhahjpjhfiaaPRx2
import Derived.Test.YthpdhahjpjhfiaaGReach
set_option linter.unusedSimpArgs false
set_option linter.unusedVariables false
namespace Go.Proofs.Ythpdhahjpjhfiaa.PR
open Go.RowKit Go.Proofs.YthpdhahjpjhfiaaW.PrintWords Go.Proofs.YthpdhahjpjhfiaaW.PrintLast Go.Proofs.YthpdhahjpjhfiaaW.PrintMore Go.Proofs.Ythpdhahjpjhfiaa.Dfs

theorem wrapIn {i : Int} (h0 : -9223372036854775808 ≤ i) (h1 : i ≤ 9223372036854775807) : wrap64 i = i := by
  unfold wrap64
  omega
theorem wrapS {i : Nat} (h : i < 9000000000000000000) : wrap64 ((i : Int) + 1) = ((i + 1 : Nat) : Int) := by
  unfold wrap64
  omega

/-- Is x seen, where x's place is x - 1? -/
def hs (seen : List Bool) (x : Int) : Bool := seen.getD (x - 1).toNat false
/-- A thing is put on the stack, if it isn't seen yet. -/
def mark (st : List Bool × List Int) (x : Int) : List Bool × List Int := if hs st.1 x then st else (st.1.set (x - 1).toNat true, st.2 ++ [x])
def marks (L : List Int) (st : List Bool × List Int) : List Bool × List Int := L.foldl mark st
/-- How many are not seen. -/
def unseen : List Bool → Nat
  | [] => 0
  | b :: l => (if b then 0 else 1) + unseen l

theorem unseen_set : ∀ (l : List Bool) (i : Nat), l[i]? = some false → unseen (l.set i true) + 1 = unseen l
  | [], i, h => by simp at h
  | b :: l, 0, h => by
    simp at h
    subst h
    simp [unseen]
    omega
  | b :: l, i + 1, h => by
    have := unseen_set l i (by simpa using h)
    simp only [List.set_cons_succ, unseen]
    omega
theorem unseen_rep : ∀ n : Nat, unseen (List.replicate n false) = n
  | 0 => rfl
  | n + 1 => by
    rw [List.replicate_succ, unseen, unseen_rep n]
    simp
    omega

theorem hs_set {seen : List Bool} {x y : Int} (hx : 1 ≤ x) (hxl : x ≤ (seen.length : Int)) (hy : 1 ≤ y) : hs (seen.set (x - 1).toNat true) y = if y = x then true else hs seen y := by
  simp only [hs, List.getD_eq_getElem?_getD, List.getElem?_set]
  by_cases h : y = x
  · subst h
    have : (y - 1).toNat < seen.length := by omega
    rw [if_pos rfl, if_pos this, if_pos rfl]
    rfl
  · have : ¬ (x - 1).toNat = (y - 1).toNat := by omega
    rw [if_neg this, if_neg h]

/-- What a row of marks does. -/
theorem marks_is (n : Nat) : ∀ (L : List Int) (seen : List Bool) (todo : List Int), seen.length = n → (∀ x ∈ L, 1 ≤ x ∧ x ≤ (n : Int)) →
    (marks L (seen, todo)).1.length = n ∧ (marks L (seen, todo)).2.length + unseen (marks L (seen, todo)).1 = todo.length + unseen seen ∧
    (∀ y, 1 ≤ y → (hs (marks L (seen, todo)).1 y = true ↔ hs seen y = true ∨ y ∈ L)) ∧ (∀ y ∈ todo, y ∈ (marks L (seen, todo)).2) ∧
    (∀ y ∈ (marks L (seen, todo)).2, y ∈ todo ∨ y ∈ L) ∧ (∀ y, 1 ≤ y → hs (marks L (seen, todo)).1 y = true → hs seen y = true ∨ y ∈ (marks L (seen, todo)).2)
  | [], seen, todo, hl, _ => ⟨hl, rfl, fun y _ => by simp [marks], fun y hy => hy, fun y hy => .inl hy, fun y _ h => .inl h⟩
  | x :: L, seen, todo, hl, hL => by
    have hx := hL x (by simp)
    have hL2 : ∀ z ∈ L, 1 ≤ z ∧ z ≤ (n : Int) := fun z hz => hL z (by simp [hz])
    cases hh : hs seen x with
    | true =>
      have e : marks (x :: L) (seen, todo) = marks L (seen, todo) := by
        show L.foldl mark (mark (seen, todo) x) = _
        rw [mark, if_pos hh]
        rfl
      rw [e]
      obtain ⟨h1, h2, h3, h4, h5, h6⟩ := marks_is n L seen todo hl hL2
      refine ⟨h1, h2, fun y hy => ?_, h4, fun y hy => ?_, h6⟩
      · rw [h3 y hy]
        constructor
        · rintro (h | h)
          · exact .inl h
          · exact .inr (by simp [h])
        · rintro (h | h)
          · exact .inl h
          · rcases List.mem_cons.1 h with rfl | h
            · exact .inl hh
            · exact .inr h
      · rcases h5 y hy with h | h
        · exact .inl h
        · exact .inr (by simp [h])
    | false =>
      have e : marks (x :: L) (seen, todo) = marks L (seen.set (x - 1).toNat true, todo ++ [x]) := by
        show L.foldl mark (mark (seen, todo) x) = _
        rw [mark, if_neg (by rw [hh]; simp)]
        rfl
      rw [e]
      have hset : ∀ y, 1 ≤ y → hs (seen.set (x - 1).toNat true) y = if y = x then true else hs seen y := fun y hy => hs_set hx.1 (by omega) hy
      obtain ⟨h1, h2, h3, h4, h5, h6⟩ := marks_is n L (seen.set (x - 1).toNat true) (todo ++ [x]) (by simpa using hl) hL2
      have hu := unseen_set seen (x - 1).toNat (by
        simp only [hs, List.getD_eq_getElem?_getD] at hh
        rw [List.getElem?_eq_getElem (by omega)] at hh ⊢
        simpa using hh)
      refine ⟨h1, ?_, fun y hy => ?_, fun y hy => h4 y (by simp [hy]), fun y hy => ?_, fun y hy h => ?_⟩
      · rw [h2, List.length_append, List.length_singleton]
        omega
      · rw [h3 y hy, hset y hy]
        by_cases hyx : y = x
        · rw [if_pos hyx]
          simp [hyx]
        · rw [if_neg hyx]
          simp [hyx]
      · rcases h5 y hy with h | h
        · rcases List.mem_append.1 h with h | h
          · exact .inl h
          · exact .inr (by simp at h; simp [h])
        · exact .inr (by simp [h])
      · rcases h6 y hy h with h | h
        · rw [hset y hy] at h
          by_cases hyx : y = x
          · exact .inr (h4 y (by simp [hyx]))
          · rw [if_neg hyx] at h
            exact .inl h
        · exact .inr h

/-- The things that are seen, in order. -/
def outs2 (seen : List Bool) (m : Nat) : List Int := ((List.range m).filter (fun (i : Nat) => hs seen ((i : Int) + 1))).map (fun (i : Nat) => (i : Int) + 1)
theorem outs2_succ (seen : List Bool) (m : Nat) : outs2 seen (m + 1) = if hs seen ((m : Int) + 1) then outs2 seen m ++ [(m : Int) + 1] else outs2 seen m := by
  simp only [outs2, List.range_succ, List.filter_append, List.map_append]
  cases h : hs seen ((m : Int) + 1) <;> simp [h]
theorem outs2_length (seen : List Bool) (m : Nat) : (outs2 seen m).length ≤ m := by
  unfold outs2
  rw [List.length_map]
  exact Nat.le_trans (List.length_filter_le _ _) (by rw [List.length_range]; exact Nat.le_refl _)

/-- The last loop tells the things that are seen. -/
theorem l6_some (n : Nat) (hn : n ≤ 2000) (seen : List Bool) (hl : seen.length = n) : ∀ (d K i : Nat), i + d = n → d < K → spec_GcReach.l6 K (n : Int) (outs2 seen i) seen (i : Int) = some (outs2 seen n)
  | 0, K, i, h1, h2 => by
    obtain ⟨K, rfl⟩ : ∃ m, K = m + 1 := ⟨K - 1, by omega⟩
    rw [spec_GcReach.l6, if_neg (by omega)]
    rw [show i = n by omega]
  | d + 1, K, i, h1, h2 => by
    obtain ⟨K, rfl⟩ : ∃ m, K = m + 1 := ⟨K - 1, by omega⟩
    have hlen := outs2_length seen i
    have e1 : rdOf false seen (i : Int) = hs seen ((i : Int) + 1) := by
      simp only [rdOf, hs, show ((i : Int) + 1 - 1).toNat = ((i : Int)).toNat by omega]
    rw [spec_GcReach.l6, if_pos (by omega), if_pos (by omega), if_pos (by omega), e1, wrapS (by omega)]
    have ih := l6_some n hn seen hl d K (i + 1) (by omega) (by omega)
    rw [outs2_succ] at ih
    cases hh : hs seen ((i : Int) + 1) with
    | true =>
      rw [if_pos rfl, if_pos (by omega)]
      rw [hh, if_pos rfl] at ih
      rw [show (((i + 1 : Nat) : Int)) = (i : Int) + 1 by omega] at ih ⊢
      exact ih
    | false =>
      rw [if_neg (by simp)]
      rw [hh, if_neg (by simp)] at ih
      exact ih

/-- The rows that are laid: at place x - 1 what x holds. -/
def RowsOf (E : List (Int × Int)) (n : Nat) (rows : List (List Int)) : Prop := rows.length = n ∧ ∀ x : Int, 1 ≤ x → x ≤ (n : Int) → rd_L3 rows (x - 1) = nextOf E x

/-- The inner loop marks what x holds. -/
theorem l5_some (E : List (Int × Int)) (n : Nat) (hn : n ≤ 2000) (hE : ∀ p ∈ E, (1 ≤ p.1 ∧ p.1 ≤ (n : Int)) ∧ 1 ≤ p.2 ∧ p.2 ≤ (n : Int)) (hEl : E.length ≤ 1048576) (rows : List (List Int)) (hr : RowsOf E n rows) (x : Int) (hx : 1 ≤ x) (hxn : x ≤ (n : Int)) (out : List Int) :
    ∀ (d K i : Nat) (seen : List Bool) (todo : List Int), i + d = (nextOf E x).length → d < K → seen.length = n → todo.length + unseen seen ≤ 2000 →
      spec_GcReach.l5 K (n : Int) out seen todo rows x (i : Int) = spec_GcReach.l4 (K - d - 1) (n : Int) out (marks ((nextOf E x).drop i) (seen, todo)).1 (marks ((nextOf E x).drop i) (seen, todo)).2 rows
  | 0, K, i, seen, todo, h1, h2, hl, ht => by
    obtain ⟨K, rfl⟩ : ∃ m, K = m + 1 := ⟨K - 1, by omega⟩
    have hnl := nextOf_length E x
    rw [spec_GcReach.l5, wrapIn (show -9223372036854775808 ≤ x - 1 by omega) (show x - 1 ≤ 9223372036854775807 by omega), hr.2 x hx hxn, hr.1, if_pos (by omega), if_pos (by omega), if_neg (by omega), List.drop_of_length_le (by omega)]
    rfl
  | d + 1, K, i, seen, todo, h1, h2, hl, ht => by
    obtain ⟨K, rfl⟩ : ∃ m, K = m + 1 := ⟨K - 1, by omega⟩
    have hnl := nextOf_length E x
    have hi : i < (nextOf E x).length := by omega
    have hrd : rd (nextOf E x) (i : Int) = (nextOf E x)[i] := by simp [rd, List.getElem?_eq_getElem hi]
    have hmem : (x, (nextOf E x)[i]) ∈ E := mem_nextOf.1 (List.getElem_mem hi)
    have hy := (hE _ hmem).2
    simp only at hy
    have hd := List.drop_eq_getElem_cons hi
    obtain ⟨y, hyy⟩ : ∃ y, (nextOf E x)[i] = y := ⟨_, rfl⟩
    rw [hyy] at hrd hy hd
    rw [spec_GcReach.l5, wrapIn (show -9223372036854775808 ≤ x - 1 by omega) (show x - 1 ≤ 9223372036854775807 by omega), hr.2 x hx hxn, hr.1, if_pos (by omega), if_pos (by omega), if_pos (by omega), if_pos (by omega), hrd,
      wrapIn (show -9223372036854775808 ≤ y - 1 by omega) (show y - 1 ≤ 9223372036854775807 by omega), if_pos (by omega), if_pos (by omega), wrapS (by omega)]
    have e1 : rdOf false seen (y - 1) = hs seen y := rfl
    have e2 : marks ((nextOf E x).drop i) (seen, todo) = marks ((nextOf E x).drop (i + 1)) (mark (seen, todo) y) := by rw [hd]; rfl
    rw [e1, e2, show K + 1 - (d + 1) - 1 = K - d - 1 by omega]
    cases hh : hs seen y with
    | true =>
      rw [if_pos rfl, show mark (seen, todo) y = (seen, todo) by rw [mark, if_pos hh]]
      exact l5_some E n hn hE hEl rows hr x hx hxn out d K (i + 1) seen todo (by omega) (by omega) hl ht
    | false =>
      have hu := unseen_set seen (y - 1).toNat (by
        simp only [hs, List.getD_eq_getElem?_getD] at hh
        rw [List.getElem?_eq_getElem (by omega)] at hh ⊢
        simpa using hh)
      rw [if_neg (by simp), if_pos (by omega), show mark (seen, todo) y = (seen.set (y - 1).toNat true, todo ++ [y]) by rw [mark, if_neg (by rw [hh]; simp)]]
      exact l5_some E n hn hE hEl rows hr x hx hxn out d K (i + 1) _ _ (by omega) (by omega) (by simpa using hl) (by rw [List.length_append, List.length_singleton]; omega)

/-- What holds whenever the search looks at its stack. -/
structure Inv (E : List (Int × Int)) (R : List Int) (n : Nat) (seen : List Bool) (todo : List Int) : Prop where
  len : seen.length = n
  rng : ∀ x ∈ todo, 1 ≤ x ∧ x ≤ (n : Int)
  only : ∀ x, 1 ≤ x → hs seen x = true → Rch E R x
  on : ∀ x ∈ todo, hs seen x = true
  roots : ∀ x ∈ R, hs seen x = true
  next : ∀ x y, 1 ≤ x → hs seen x = true → (x, y) ∈ E → x ∈ todo ∨ hs seen y = true

theorem l4_some (E : List (Int × Int)) (R : List Int) (n : Nat) (hn : n ≤ 2000) (hE : ∀ p ∈ E, (1 ≤ p.1 ∧ p.1 ≤ (n : Int)) ∧ 1 ≤ p.2 ∧ p.2 ≤ (n : Int)) (hEl : E.length ≤ 1048576) (rows : List (List Int)) (hr : RowsOf E n rows) (c : Nat) (hc : E.length + 2 ≤ c) (M : Nat) :
    ∀ (K : Nat) (seen : List Bool) (todo : List Int), Inv E R n seen todo → todo.length + unseen seen ≤ M → M ≤ 2000 → M * c + 2002 ≤ K →
      ∃ s, spec_GcReach.l4 K (n : Int) [] seen todo rows = some (outs2 s n) ∧ (∀ x, 1 ≤ x → hs s x = true → Rch E R x) ∧ (∀ x ∈ R, hs s x = true) ∧ (∀ x y, 1 ≤ x → hs s x = true → (x, y) ∈ E → hs s y = true) := by
  induction M with
  | zero =>
    intro K seen todo hI hM hM2 hK
    obtain ⟨K, rfl⟩ : ∃ m, K = m + 1 := ⟨K - 1, by omega⟩
    obtain rfl : todo = [] := List.eq_nil_of_length_eq_zero (by omega)
    refine ⟨seen, ?_, hI.only, hI.roots, fun x y hx hh he => (hI.next x y hx hh he).resolve_left (by simp)⟩
    rw [spec_GcReach.l4, if_neg (by simp)]
    exact l6_some n hn seen hI.len n K 0 (by omega) (by omega)
  | succ M ih =>
    intro K seen todo hI hM hM2 hK
    rw [Nat.succ_mul] at hK
    generalize M * c = Mc at hK ih
    obtain ⟨K, rfl⟩ : ∃ m, K = m + 1 := ⟨K - 1, by omega⟩
    rcases List.eq_nil_or_concat todo with rfl | ⟨r, x, rfl⟩
    · refine ⟨seen, ?_, hI.only, hI.roots, fun x y hx hh he => (hI.next x y hx hh he).resolve_left (by simp)⟩
      rw [spec_GcReach.l4, if_neg (by simp)]
      exact l6_some n hn seen hI.len n K 0 (by omega) (by omega)
    · rw [List.concat_eq_append] at hI hM ⊢
      have hlen : (r ++ [x]).length = r.length + 1 := by simp
      have hx := hI.rng x (by simp)
      have hnl := nextOf_length E x
      have hw : wrap64 (((r ++ [x]).length : Int) - 1) = (r.length : Int) := by
        rw [hlen]
        unfold wrap64
        omega
      have hrd : rd (r ++ [x]) (r.length : Int) = x := by simp [rd]
      have htk : (r ++ [x]).take ((r.length : Int)).toNat = r := by simp
      rw [spec_GcReach.l4, if_pos (by omega), hw, if_pos (by omega), if_pos (by omega), if_pos (by omega), hrd, htk]
      rw [show (0 : Int) = ((0 : Nat) : Int) from rfl, l5_some E n hn hE hEl rows hr x hx.1 hx.2 [] (nextOf E x).length K 0 seen r (by omega) (by omega) hI.len (by omega), List.drop_zero]
      have hL : ∀ z ∈ nextOf E x, 1 ≤ z ∧ z ≤ (n : Int) := fun z hz => (hE _ (mem_nextOf.1 hz)).2
      obtain ⟨h1, h2, h3, h4, h5, h6⟩ := marks_is n (nextOf E x) seen r hI.len hL
      have hxs : hs seen x = true := hI.on x (by simp)
      refine ih (K - (nextOf E x).length - 1) _ _ ⟨h1, fun y hy => ?_, fun y hy hh => ?_, fun y hy => ?_, fun y hy => ?_, fun y z hy hh he => ?_⟩ (by rw [h2]; omega) (by omega) (by omega)
      · rcases h5 y hy with h | h
        · exact hI.rng y (by simp [h])
        · exact hL y h
      · rcases (h3 y hy).1 hh with h | h
        · exact hI.only y hy h
        · exact .step x y (hI.only x hx.1 hxs) (mem_nextOf.1 h)
      · rcases h5 y hy with h | h
        · exact (h3 y (hI.rng y (by simp [h])).1).2 (.inl (hI.on y (by simp [h])))
        · exact (h3 y (hL y h).1).2 (.inr h)
      · have hy0 := hI.roots y hy
        by_cases hy1 : 1 ≤ y
        · exact (h3 y hy1).2 (.inl hy0)
        · have e0 : ∀ (s : List Bool), hs s y = hs s 1 := fun s => by
            simp only [hs]
            congr 1
            omega
          rw [e0] at hy0 ⊢
          exact (h3 1 (by omega)).2 (.inl hy0)
      · have hz := (hE _ he).2
        rcases h6 y hy hh with h | h
        · by_cases hyx : y = x
          · subst hyx
            exact .inr ((h3 z hz.1).2 (.inr (mem_nextOf.2 he)))
          · rcases hI.next y z hy h he with h7 | h7
            · rcases List.mem_append.1 h7 with h7 | h7
              · exact .inl (h4 y h7)
              · exact absurd (by simpa using h7) hyx
            · exact .inr ((h3 z hz.1).2 (.inl h7))
        · exact .inl h


end Go.Proofs.Ythpdhahjpjhfiaa.PR
