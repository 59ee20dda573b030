/- The copies, comparisons and marks of the laws on rows of numbers. Plain law; no condition beyond those of the theorems. -/
import Derived.Test.YtdibbgldclgokaaPSx1
set_option linter.unusedSimpArgs false
set_option linter.unusedVariables false
namespace Go.Proofs.Ytdibbgldclgokaa.PS
open Go.RowKit Go.Proofs.YtdibbgldclgokaaW.PrintWords Go.Proofs.YtdibbgldclgokaaW.PrintLast Go.Proofs.YtdibbgldclgokaaW.PrintMore

theorem wrapN {n : Nat} (h : n < 9000000000000000000) : wrap64 ((n : Int) + 1) = ((n + 1 : Nat) : Int) := by
  unfold wrap64
  omega
theorem take_set_self {α : Type} {x : List α} {i : Nat} {v : α} (hi : i < x.length) : (x.set i v).take (i + 1) = x.take i ++ [v] := by
  apply List.ext_getElem?
  intro j
  rcases Nat.lt_trichotomy j i with h | h | h
  · rw [List.getElem?_append_left (by simp; omega)]
    simp only [List.getElem?_take, show j < i + 1 by omega, h, if_true, List.getElem?_set, show i ≠ j by omega, if_false]
  · subst h
    rw [List.getElem?_append_right (by simp; omega)]
    simp [hi, Nat.min_eq_left (Nat.le_of_lt hi)]
  · rw [List.getElem?_eq_none (by simp; omega), List.getElem?_eq_none (by simp; omega)]
theorem take_one {α : Type} (l : List α) (i : Nat) (h : i < l.length) : l.take (i + 1) = l.take i ++ [l[i]] := by rw [List.take_add_one, List.getElem?_eq_getElem h]; rfl
theorem rdN (l : List Int) (i : Nat) (h : i < l.length) : rd l (i : Int) = l[i] := by simp [rd, List.getD_eq_getElem?_getD, List.getElem?_eq_getElem h]

theorem toInts_loop (x : List Int) (hx : x.length ≤ 100000000000) : ∀ (d K i : Nat) (y : List Int), i + d = x.length → d < K → y.length = x.length → y.take i = x.take i → laws_toInt64S.l0 K x y (i : Int) = some x
  | 0, K, i, y, h1, h2, hl, ht => by
    obtain ⟨K, rfl⟩ : ∃ m, K = m + 1 := ⟨K - 1, by omega⟩
    rw [laws_toInt64S.l0, if_neg (by omega)]
    rw [List.take_of_length_le (by omega), List.take_of_length_le (by omega)] at ht
    rw [ht]
  | d + 1, K, i, y, h1, h2, hl, ht => by
    obtain ⟨K, rfl⟩ : ∃ m, K = m + 1 := ⟨K - 1, by omega⟩
    have hi : i < x.length := by omega
    rw [laws_toInt64S.l0, if_pos (by omega), if_pos (by omega), if_pos (by omega), rdN x i hi, wrapN (by omega), Int.toNat_natCast]
    refine toInts_loop x hx d K (i + 1) _ (by omega) (by omega) (by rw [List.length_set]; exact hl) ?_
    rw [take_set_self (by omega), ht, take_one x i hi]
theorem toInts_some (x : List Int) (hx : x.length ≤ 100000000000) (K : Nat) (hK : x.length < K) : laws_toInt64S.f K x = some x := by
  unfold laws_toInt64S.f
  rw [if_pos (by omega), if_pos (by omega), Int.toNat_natCast, show (0 : Int) = ((0 : Nat) : Int) from rfl]
  exact toInts_loop x hx x.length K 0 _ (by omega) hK (by simp) (by simp)
theorem eqInts_loop (x : List Int) (hx : x.length ≤ 100000000000) : ∀ (d K i : Nat), i + d = x.length → d < K → laws_eqInt64S.l0 K x x (i : Int) = some true
  | 0, K, i, h1, h2 => by
    obtain ⟨K, rfl⟩ : ∃ m, K = m + 1 := ⟨K - 1, by omega⟩
    rw [laws_eqInt64S.l0, if_neg (by omega)]
  | d + 1, K, i, h1, h2 => by
    obtain ⟨K, rfl⟩ : ∃ m, K = m + 1 := ⟨K - 1, by omega⟩
    rw [laws_eqInt64S.l0, if_pos (by omega), if_pos (by omega), if_pos (by omega), if_pos rfl, wrapN (by omega)]
    exact eqInts_loop x hx d K (i + 1) (by omega) (by omega)
theorem eqInts_some (x : List Int) (hx : x.length ≤ 100000000000) (K : Nat) (hK : x.length < K) : laws_eqInt64S.f K x x = some true := by
  unfold laws_eqInt64S.f
  rw [if_pos rfl, show (0 : Int) = ((0 : Nat) : Int) from rfl]
  exact eqInts_loop x hx x.length K 0 (by omega) hK

def seqFrom : Nat → Nat → List Int
  | _, 0 => []
  | v, n + 1 => (v : Int) :: seqFrom (v + 1) n
theorem seqFrom_length : ∀ (n v : Nat), (seqFrom v n).length = n
  | 0, _ => rfl
  | n + 1, v => by rw [seqFrom, List.length_cons, seqFrom_length n]

theorem markInts_loop : ∀ (d K i : Nat) (x : List Int) (v : Nat), i + d = x.length → d < K → x.length ≤ 100000000000 → v ≤ 400000000000000000 + i → laws_markInt64S.l0 K x (v : Int) (i : Int) = some (((v + d : Nat) : Int), x.take i ++ seqFrom v d)
  | 0, K, i, x, v, h1, h2, hx, hv => by
    obtain ⟨K, rfl⟩ : ∃ m, K = m + 1 := ⟨K - 1, by omega⟩
    rw [laws_markInt64S.l0, if_neg (by omega), List.take_of_length_le (by omega)]
    simp [seqFrom]
  | d + 1, K, i, x, v, h1, h2, hx, hv => by
    obtain ⟨K, rfl⟩ : ∃ m, K = m + 1 := ⟨K - 1, by omega⟩
    rw [laws_markInt64S.l0, if_pos (by omega), if_pos (by omega), wrapN (show v < 9000000000000000000 by omega), wrapN (show i < 9000000000000000000 by omega), Int.toNat_natCast,
      markInts_loop d K (i + 1) _ (v + 1) (by rw [List.length_set]; omega) (by omega) (by rw [List.length_set]; exact hx) (by omega), take_set_self (by omega), List.append_assoc, show v + 1 + d = v + (d + 1) by omega]
    rfl
theorem markInts_some (x : List Int) (hx : x.length ≤ 100000000000) (v : Nat) (hv : v ≤ 400000000000000000) (K : Nat) (hK : x.length < K) : laws_markInt64S.f K x (v : Int) = some (((v + x.length : Nat) : Int), seqFrom v x.length) := by
  unfold laws_markInt64S.f
  have := markInts_loop x.length K 0 x v (by omega) hK hx (by omega)
  rw [List.take_zero, List.nil_append] at this
  exact this
theorem heldInts_loop : ∀ (d K i : Nat) (x : List Int) (v : Nat), x.drop i = seqFrom v d → i + d = x.length → d < K → x.length ≤ 100000000000 → v ≤ 400000000000000000 + i → laws_heldInt64S.l0 K x (v : Int) (i : Int) = some ((v + d : Nat) : Int)
  | 0, K, i, x, v, h0, h1, h2, hx, hv => by
    obtain ⟨K, rfl⟩ : ∃ m, K = m + 1 := ⟨K - 1, by omega⟩
    rw [laws_heldInt64S.l0, if_neg (by omega)]
    rfl
  | d + 1, K, i, x, v, h0, h1, h2, hx, hv => by
    obtain ⟨K, rfl⟩ : ∃ m, K = m + 1 := ⟨K - 1, by omega⟩
    have hi : i < x.length := by omega
    rw [List.drop_eq_getElem_cons hi] at h0
    simp only [seqFrom, List.cons.injEq] at h0
    rw [laws_heldInt64S.l0, if_pos (by omega), if_pos (by omega), rdN x i hi, if_pos h0.1, wrapN (show v < 9000000000000000000 by omega), wrapN (show i < 9000000000000000000 by omega),
      heldInts_loop d K (i + 1) x (v + 1) h0.2 (by omega) (by omega) hx (by omega), show v + 1 + d = v + (d + 1) by omega]
theorem heldInts_some (v n : Nat) (hv : v ≤ 400000000000000000) (hn : n ≤ 100000000000) (K : Nat) (hK : n < K) : laws_heldInt64S.f K (seqFrom v n) (v : Int) = some ((v + n : Nat) : Int) := by
  unfold laws_heldInt64S.f
  exact heldInts_loop n K 0 (seqFrom v n) v rfl (by rw [seqFrom_length]; omega) hK (by rw [seqFrom_length]; exact hn) (by omega)

end Go.Proofs.Ytdibbgldclgokaa.PS
