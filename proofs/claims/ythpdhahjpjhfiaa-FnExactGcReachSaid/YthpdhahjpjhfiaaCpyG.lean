/- The copies, comparisons and marks of the laws on rows of numbers and rows of operations. Plain law; no condition beyond those of the theorems. -/
import Derived.Test.YthpdhahjpjhfiaaPRx4
import Derived.Test.YthpdhahjpjhfiaaRchY
set_option linter.unusedSimpArgs false
set_option linter.unusedVariables false
namespace Go.Proofs.Ythpdhahjpjhfiaa.PR
open Go.RowKit Go.Proofs.YthpdhahjpjhfiaaW.PrintWords Go.Proofs.YthpdhahjpjhfiaaW.PrintLast Go.Proofs.YthpdhahjpjhfiaaW.PrintMore

theorem take_set_self {α : Type} {x : List α} {i : Nat} {v : α} (hi : i < x.length) : (x.set i v).take (i + 1) = x.take i ++ [v] := by
  apply List.ext_getElem?
  intro j
  rcases Nat.lt_trichotomy j i with h | h | h
  · rw [List.getElem?_append_left (by simp; omega)]
    simp only [List.getElem?_take, show j < i + 1 by omega, h, if_true, List.getElem?_set, show i ≠ j by omega, if_false]
  · subst h
    rw [List.getElem?_append_right (by simp; omega)]
    simp [hi, Nat.min_eq_left (Nat.le_of_lt hi)]
  · rw [List.getElem?_eq_none (by simp; omega), List.getElem?_eq_none (by simp; omega)]
theorem rd54 (l : List S54) (i : Nat) (h : i < l.length) : rd_T54 l (i : Int) = l[i] := by simp [rd_T54, List.getD_eq_getElem?_getD, List.getElem?_eq_getElem h]
theorem take_one {α : Type} (l : List α) (i : Nat) (h : i < l.length) : l.take (i + 1) = l.take i ++ [l[i]] := by rw [List.take_add_one, List.getElem?_eq_getElem h]; rfl

def toOp (x : S54) : S39 := ⟨x.f0, x.f1, x.f2⟩

theorem toOps_loop (x : List S54) (hx : x.length ≤ 1048576) : ∀ (d K i : Nat) (y : List S39), i + d = x.length → d < K → y.length = x.length → y.take i = (x.take i).map toOp → laws_toGcOpS.l0 K x y (i : Int) = some (x.map toOp)
  | 0, K, i, y, h1, h2, hl, ht => by
    obtain ⟨K, rfl⟩ : ∃ m, K = m + 1 := ⟨K - 1, by omega⟩
    rw [laws_toGcOpS.l0, if_neg (by omega)]
    rw [List.take_of_length_le (by omega), List.take_of_length_le (by omega)] at ht
    rw [ht]
  | d + 1, K, i, y, h1, h2, hl, ht => by
    obtain ⟨K, rfl⟩ : ∃ m, K = m + 1 := ⟨K - 1, by omega⟩
    have hi : i < x.length := by omega
    rw [laws_toGcOpS.l0, if_pos (by omega), if_pos (by omega), rd54 x i hi, laws_toGcOp.f, Option.bind_some, if_pos (by omega), wrapS (by omega), Int.toNat_natCast]
    refine toOps_loop x hx d K (i + 1) _ (by omega) (by omega) (by rw [List.length_set]; exact hl) ?_
    rw [take_set_self (by omega), ht, take_one x i hi, List.map_append]
    rfl
theorem toOps_some (x : List S54) (hx : x.length ≤ 1048576) (K : Nat) (hK : x.length < K) : laws_toGcOpS.f K x = some (x.map toOp) := by
  unfold laws_toGcOpS.f
  rw [if_pos (by omega), if_pos (by omega), Int.toNat_natCast, show (0 : Int) = ((0 : Nat) : Int) from rfl]
  exact toOps_loop x hx x.length K 0 _ (by omega) hK (by simp) (by simp)

theorem toInts_loop (x : List Int) (hx : x.length ≤ 1048576) : ∀ (d K i : Nat) (y : List Int), i + d = x.length → d < K → y.length = x.length → y.take i = x.take i → laws_toInt64S.l0 K x y (i : Int) = some x
  | 0, K, i, y, h1, h2, hl, ht => by
    obtain ⟨K, rfl⟩ : ∃ m, K = m + 1 := ⟨K - 1, by omega⟩
    rw [laws_toInt64S.l0, if_neg (by omega)]
    rw [List.take_of_length_le (by omega), List.take_of_length_le (by omega)] at ht
    rw [ht]
  | d + 1, K, i, y, h1, h2, hl, ht => by
    obtain ⟨K, rfl⟩ : ∃ m, K = m + 1 := ⟨K - 1, by omega⟩
    have hi : i < x.length := by omega
    rw [laws_toInt64S.l0, if_pos (by omega), if_pos (by omega), if_pos (by omega), rdI x i hi, wrapS (by omega), Int.toNat_natCast]
    refine toInts_loop x hx d K (i + 1) _ (by omega) (by omega) (by rw [List.length_set]; exact hl) ?_
    rw [take_set_self (by omega), ht, take_one x i hi]
theorem toInts_some (x : List Int) (hx : x.length ≤ 1048576) (K : Nat) (hK : x.length < K) : laws_toInt64S.f K x = some x := by
  unfold laws_toInt64S.f
  rw [if_pos (by omega), if_pos (by omega), Int.toNat_natCast, show (0 : Int) = ((0 : Nat) : Int) from rfl]
  exact toInts_loop x hx x.length K 0 _ (by omega) hK (by simp) (by simp)

theorem eqInts_loop (x : List Int) (hx : x.length ≤ 1048576) : ∀ (d K i : Nat), i + d = x.length → d < K → laws_eqInt64S.l0 K x x (i : Int) = some true
  | 0, K, i, h1, h2 => by
    obtain ⟨K, rfl⟩ : ∃ m, K = m + 1 := ⟨K - 1, by omega⟩
    rw [laws_eqInt64S.l0, if_neg (by omega)]
  | d + 1, K, i, h1, h2 => by
    obtain ⟨K, rfl⟩ : ∃ m, K = m + 1 := ⟨K - 1, by omega⟩
    rw [laws_eqInt64S.l0, if_pos (by omega), if_pos (by omega), if_pos (by omega), if_pos rfl, wrapS (by omega)]
    exact eqInts_loop x hx d K (i + 1) (by omega) (by omega)
theorem eqInts_some (x : List Int) (hx : x.length ≤ 1048576) (K : Nat) (hK : x.length < K) : laws_eqInt64S.f K x x = some true := by
  unfold laws_eqInt64S.f
  rw [if_pos rfl, show (0 : Int) = ((0 : Nat) : Int) from rfl]
  exact eqInts_loop x hx x.length K 0 (by omega) hK

theorem eqOps_loop (x : List S39) (hx : x.length ≤ 1048576) : ∀ (d K i : Nat), i + d = x.length → d < K → laws_eqGcOpS.l0 K x x (i : Int) = some true
  | 0, K, i, h1, h2 => by
    obtain ⟨K, rfl⟩ : ∃ m, K = m + 1 := ⟨K - 1, by omega⟩
    rw [laws_eqGcOpS.l0, if_neg (by omega)]
  | d + 1, K, i, h1, h2 => by
    obtain ⟨K, rfl⟩ : ∃ m, K = m + 1 := ⟨K - 1, by omega⟩
    rw [laws_eqGcOpS.l0, if_pos (by omega), if_pos (by omega), if_pos (by omega), laws_eqGcOp.f, if_pos rfl, if_pos rfl, if_pos rfl, Option.bind_some, if_pos rfl, wrapS (by omega)]
    exact eqOps_loop x hx d K (i + 1) (by omega) (by omega)
theorem eqOps_some (x : List S39) (hx : x.length ≤ 1048576) (K : Nat) (hK : x.length < K) : laws_eqGcOpS.f K x x = some true := by
  unfold laws_eqGcOpS.f
  rw [if_pos rfl, show (0 : Int) = ((0 : Nat) : Int) from rfl]
  exact eqOps_loop x hx x.length K 0 (by omega) hK

theorem markOps_loop : ∀ (d K i : Nat) (x : List S39) (v : Nat), i + d = x.length → d < K → x.length ≤ 1048576 → v + 3 * d ≤ 4000000 → ∃ y, laws_markGcOpS.l0 K x (v : Int) (i : Int) = some (((v + 3 * d : Nat) : Int), y)
  | 0, K, i, x, v, h1, h2, hx, hv => by
    obtain ⟨K, rfl⟩ : ∃ m, K = m + 1 := ⟨K - 1, by omega⟩
    exact ⟨x, by rw [laws_markGcOpS.l0, if_neg (by omega)]; rfl⟩
  | d + 1, K, i, x, v, h1, h2, hx, hv => by
    obtain ⟨K, rfl⟩ : ∃ m, K = m + 1 := ⟨K - 1, by omega⟩
    rw [laws_markGcOpS.l0, if_pos (by omega), if_pos (by omega), Option.bind_some, Option.bind_some, wrapS (show v < 9000000000000000000 by omega), wrapS (show v + 1 < 9000000000000000000 by omega), wrapS (show v + 1 + 1 < 9000000000000000000 by omega), wrapS (show i < 9000000000000000000 by omega)]
    rw [show v + 3 * (d + 1) = v + 1 + 1 + 1 + 3 * d by omega]
    exact markOps_loop d K (i + 1) _ (v + 1 + 1 + 1) (by rw [List.length_set, List.length_set, List.length_set]; omega) (by omega) (by rw [List.length_set, List.length_set, List.length_set]; exact hx) (by omega)
theorem markOps_some (x : List S39) (hx : x.length ≤ 1048576) (K : Nat) (hK : x.length < K) : ∃ y, laws_markGcOpS.f K x 1 = some (((1 + 3 * x.length : Nat) : Int), y) := by
  unfold laws_markGcOpS.f
  have := markOps_loop x.length K 0 x 1 (by omega) hK hx (by omega)
  exact this

def seqFrom : Nat → Nat → List Int
  | _, 0 => []
  | v, n + 1 => (v : Int) :: seqFrom (v + 1) n
theorem seqFrom_length : ∀ (n v : Nat), (seqFrom v n).length = n
  | 0, _ => rfl
  | n + 1, v => by rw [seqFrom, List.length_cons, seqFrom_length n]

theorem markInts_loop : ∀ (d K i : Nat) (x : List Int) (v : Nat), i + d = x.length → d < K → x.length ≤ 1048576 → v ≤ 4000000 + i → laws_markInt64S.l0 K x (v : Int) (i : Int) = some (((v + d : Nat) : Int), x.take i ++ seqFrom v d)
  | 0, K, i, x, v, h1, h2, hx, hv => by
    obtain ⟨K, rfl⟩ : ∃ m, K = m + 1 := ⟨K - 1, by omega⟩
    rw [laws_markInt64S.l0, if_neg (by omega), List.take_of_length_le (by omega)]
    simp [seqFrom]
  | d + 1, K, i, x, v, h1, h2, hx, hv => by
    obtain ⟨K, rfl⟩ : ∃ m, K = m + 1 := ⟨K - 1, by omega⟩
    rw [laws_markInt64S.l0, if_pos (by omega), if_pos (by omega), wrapS (show v < 9000000000000000000 by omega), wrapS (show i < 9000000000000000000 by omega), Int.toNat_natCast,
      markInts_loop d K (i + 1) _ (v + 1) (by rw [List.length_set]; omega) (by omega) (by rw [List.length_set]; exact hx) (by omega), take_set_self (by omega), List.append_assoc, show v + 1 + d = v + (d + 1) by omega]
    rfl
theorem markInts_some (x : List Int) (hx : x.length ≤ 1048576) (v : Nat) (hv : v ≤ 4000000) (K : Nat) (hK : x.length < K) : laws_markInt64S.f K x (v : Int) = some (((v + x.length : Nat) : Int), seqFrom v x.length) := by
  unfold laws_markInt64S.f
  have := markInts_loop x.length K 0 x v (by omega) hK hx (by omega)
  rw [List.take_zero, List.nil_append] at this
  exact this

theorem heldInts_loop : ∀ (d K i : Nat) (x : List Int) (v : Nat), x.drop i = seqFrom v d → i + d = x.length → d < K → x.length ≤ 1048576 → v ≤ 4000000 + i → laws_heldInt64S.l0 K x (v : Int) (i : Int) = some ((v + d : Nat) : Int)
  | 0, K, i, x, v, h0, h1, h2, hx, hv => by
    obtain ⟨K, rfl⟩ : ∃ m, K = m + 1 := ⟨K - 1, by omega⟩
    rw [laws_heldInt64S.l0, if_neg (by omega)]
    rfl
  | d + 1, K, i, x, v, h0, h1, h2, hx, hv => by
    obtain ⟨K, rfl⟩ : ∃ m, K = m + 1 := ⟨K - 1, by omega⟩
    have hi : i < x.length := by omega
    rw [List.drop_eq_getElem_cons hi] at h0
    simp only [seqFrom, List.cons.injEq] at h0
    rw [laws_heldInt64S.l0, if_pos (by omega), if_pos (by omega), rdI x i hi, if_pos h0.1, wrapS (show v < 9000000000000000000 by omega), wrapS (show i < 9000000000000000000 by omega),
      heldInts_loop d K (i + 1) x (v + 1) h0.2 (by omega) (by omega) hx (by omega), show v + 1 + d = v + (d + 1) by omega]
theorem heldInts_some (n : Nat) (hn : n ≤ 1048576) (K : Nat) (hK : n < K) : laws_heldInt64S.f K (seqFrom 1 n) 1 = some ((1 + n : Nat) : Int) := by
  unfold laws_heldInt64S.f
  exact heldInts_loop n K 0 (seqFrom 1 n) 1 rfl (by rw [seqFrom_length]; omega) hK (by rw [seqFrom_length]; exact hn) (by omega)

end Go.Proofs.Ythpdhahjpjhfiaa.PR
