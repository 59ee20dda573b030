/- The copies, comparisons and marks of the laws on rows of answers and of questions. Plain law; no condition beyond those of the theorems. -/
import Derived.Test.YtdibbgldclgokaaCpyK
import Derived.Test.YtdibbgldclgokaaPSx4
set_option linter.unusedSimpArgs false
set_option linter.unusedVariables false
namespace Go.Proofs.Ytdibbgldclgokaa.PS
open Go.RowKit Go.Proofs.YtdibbgldclgokaaW.PrintWords Go.Proofs.YtdibbgldclgokaaW.PrintLast Go.Proofs.YtdibbgldclgokaaW.PrintMore

theorem rdB (l : List Bool) (i : Nat) (h : i < l.length) : rdOf false l (i : Int) = l[i] := by simp [rdOf, List.getD_eq_getElem?_getD, List.getElem?_eq_getElem h]
theorem rdA (l : List S34) (i : Nat) (h : i < l.length) : rd_T34 l (i : Int) = l[i] := by simp [rd_T34, List.getD_eq_getElem?_getD, List.getElem?_eq_getElem h]

theorem toBools_loop (x : List Bool) (hx : x.length ≤ 1048576) : ∀ (d K i : Nat) (y : List Bool), i + d = x.length → d < K → y.length = x.length → y.take i = x.take i → laws_toBoolS.l0 K x y (i : Int) = some x
  | 0, K, i, y, h1, h2, hl, ht => by
    obtain ⟨K, rfl⟩ : ∃ m, K = m + 1 := ⟨K - 1, by omega⟩
    rw [laws_toBoolS.l0, if_neg (by omega)]
    rw [List.take_of_length_le (by omega), List.take_of_length_le (by omega)] at ht
    rw [ht]
  | d + 1, K, i, y, h1, h2, hl, ht => by
    obtain ⟨K, rfl⟩ : ∃ m, K = m + 1 := ⟨K - 1, by omega⟩
    have hi : i < x.length := by omega
    rw [laws_toBoolS.l0, if_pos (by omega), if_pos (by omega), if_pos (by omega), rdB x i hi, wrapN (by omega), Int.toNat_natCast]
    refine toBools_loop x hx d K (i + 1) _ (by omega) (by omega) (by rw [List.length_set]; exact hl) ?_
    rw [take_set_self (by omega), ht, take_one x i hi]
theorem toBools_some (x : List Bool) (hx : x.length ≤ 1048576) (K : Nat) (hK : x.length < K) : laws_toBoolS.f K x = some x := by
  unfold laws_toBoolS.f
  rw [if_pos (by omega), if_pos (by omega), Int.toNat_natCast, show (0 : Int) = ((0 : Nat) : Int) from rfl]
  exact toBools_loop x hx x.length K 0 _ (by omega) hK (by simp) (by simp)
theorem eqBools_loop (x : List Bool) (hx : x.length ≤ 1048576) : ∀ (d K i : Nat), i + d = x.length → d < K → laws_eqBoolS.l0 K x x (i : Int) = some true
  | 0, K, i, h1, h2 => by
    obtain ⟨K, rfl⟩ : ∃ m, K = m + 1 := ⟨K - 1, by omega⟩
    rw [laws_eqBoolS.l0, if_neg (by omega)]
  | d + 1, K, i, h1, h2 => by
    obtain ⟨K, rfl⟩ : ∃ m, K = m + 1 := ⟨K - 1, by omega⟩
    rw [laws_eqBoolS.l0, if_pos (by omega), if_pos (by omega), if_pos (by omega), bne_self_eq_false, if_neg (by decide), wrapN (by omega)]
    exact eqBools_loop x hx d K (i + 1) (by omega) (by omega)
theorem eqBools_some (x : List Bool) (hx : x.length ≤ 1048576) (K : Nat) (hK : x.length < K) : laws_eqBoolS.f K x x = some true := by
  unfold laws_eqBoolS.f
  rw [if_pos rfl, show (0 : Int) = ((0 : Nat) : Int) from rfl]
  exact eqBools_loop x hx x.length K 0 (by omega) hK
theorem markBools_loop : ∀ (d K i : Nat) (x : List Bool) (v : Nat), i + d = x.length → d < K → x.length ≤ 1048576 → v ≤ 400000000000000000 + i → ∃ y, laws_markBoolS.l0 K x (v : Int) (i : Int) = some (((v + d : Nat) : Int), y)
  | 0, K, i, x, v, h1, h2, hx, hv => by
    obtain ⟨K, rfl⟩ : ∃ m, K = m + 1 := ⟨K - 1, by omega⟩
    exact ⟨x, by rw [laws_markBoolS.l0, if_neg (by omega)]; rfl⟩
  | d + 1, K, i, x, v, h1, h2, hx, hv => by
    obtain ⟨K, rfl⟩ : ∃ m, K = m + 1 := ⟨K - 1, by omega⟩
    rw [laws_markBoolS.l0, if_pos (by omega), if_pos (by omega), wrapN (show v < 9000000000000000000 by omega), wrapN (show i < 9000000000000000000 by omega), show v + (d + 1) = v + 1 + d by omega]
    exact markBools_loop d K (i + 1) _ (v + 1) (by rw [List.length_set]; omega) (by omega) (by rw [List.length_set]; exact hx) (by omega)
theorem markBools_some (x : List Bool) (hx : x.length ≤ 1048576) (K : Nat) (hK : x.length < K) : ∃ y, laws_markBoolS.f K x 1 = some (((1 + x.length : Nat) : Int), y) := by
  unfold laws_markBoolS.f
  exact markBools_loop x.length K 0 x 1 (by omega) hK hx (by omega)

theorem eqAsks_loop (x : List S34) (hx : x.length ≤ 100000000000000000) : ∀ (d K i : Nat), i + d = x.length → d < K → laws_eqAskS.l0 K x x (i : Int) = some true
  | 0, K, i, h1, h2 => by
    obtain ⟨K, rfl⟩ : ∃ m, K = m + 1 := ⟨K - 1, by omega⟩
    rw [laws_eqAskS.l0, if_neg (by omega)]
  | d + 1, K, i, h1, h2 => by
    obtain ⟨K, rfl⟩ : ∃ m, K = m + 1 := ⟨K - 1, by omega⟩
    rw [laws_eqAskS.l0, if_pos (by omega), if_pos (by omega), if_pos (by omega), laws_eqAsk.f, if_pos rfl, if_pos rfl, Option.bind_some, if_pos rfl, wrapN (by omega)]
    exact eqAsks_loop x hx d K (i + 1) (by omega) (by omega)
theorem eqAsks_some (x : List S34) (hx : x.length ≤ 100000000000000000) (K : Nat) (hK : x.length < K) : laws_eqAskS.f K x x = some true := by
  unfold laws_eqAskS.f
  rw [if_pos rfl, show (0 : Int) = ((0 : Nat) : Int) from rfl]
  exact eqAsks_loop x hx x.length K 0 (by omega) hK

def seqAsk : Nat → Nat → List S34
  | _, 0 => []
  | v, n + 1 => ⟨(v : Int), ((v + 1 : Nat) : Int)⟩ :: seqAsk (v + 2) n
theorem seqAsk_length : ∀ (n v : Nat), (seqAsk v n).length = n
  | 0, _ => rfl
  | n + 1, v => by rw [seqAsk, List.length_cons, seqAsk_length n]
theorem markAsks_loop : ∀ (d K i : Nat) (x : List S34) (v : Nat), i + d = x.length → d < K → x.length ≤ 100000000000000000 → v ≤ 1 + 2 * i → laws_markAskS.l0 K x (v : Int) (i : Int) = some (((v + 2 * d : Nat) : Int), x.take i ++ seqAsk v d)
  | 0, K, i, x, v, h1, h2, hx, hv => by
    obtain ⟨K, rfl⟩ : ∃ m, K = m + 1 := ⟨K - 1, by omega⟩
    rw [laws_markAskS.l0, if_neg (by omega), List.take_of_length_le (by omega)]
    simp [seqAsk]
  | d + 1, K, i, x, v, h1, h2, hx, hv => by
    obtain ⟨K, rfl⟩ : ∃ m, K = m + 1 := ⟨K - 1, by omega⟩
    rw [laws_markAskS.l0, if_pos (by omega), if_pos (by omega), Option.bind_some, wrapN (show v < 9000000000000000000 by omega), wrapN (show v + 1 < 9000000000000000000 by omega), wrapN (show i < 9000000000000000000 by omega), Int.toNat_natCast,
      rdA x i (by omega), rdA _ i (by rw [List.length_set]; omega), List.getElem_set_self, List.set_set,
      markAsks_loop d K (i + 1) _ (v + 1 + 1) (by rw [List.length_set]; omega) (by omega) (by rw [List.length_set]; exact hx) (by omega), take_set_self (by omega), List.append_assoc, show v + 1 + 1 + 2 * d = v + 2 * (d + 1) by omega]
    rfl
theorem markAsks_some (x : List S34) (hx : x.length ≤ 100000000000000000) (K : Nat) (hK : x.length < K) : laws_markAskS.f K x 1 = some (((1 + 2 * x.length : Nat) : Int), seqAsk 1 x.length) := by
  unfold laws_markAskS.f
  have := markAsks_loop x.length K 0 x 1 (by omega) hK hx (by omega)
  rw [List.take_zero, List.nil_append] at this
  exact this
theorem heldAsks_loop : ∀ (d K i : Nat) (x : List S34) (v : Nat), x.drop i = seqAsk v d → i + d = x.length → d < K → x.length ≤ 100000000000000000 → v ≤ 1 + 2 * i → laws_heldAskS.l0 K x (v : Int) (i : Int) = some ((v + 2 * d : Nat) : Int)
  | 0, K, i, x, v, h0, h1, h2, hx, hv => by
    obtain ⟨K, rfl⟩ : ∃ m, K = m + 1 := ⟨K - 1, by omega⟩
    rw [laws_heldAskS.l0, if_neg (by omega)]
    rfl
  | d + 1, K, i, x, v, h0, h1, h2, hx, hv => by
    obtain ⟨K, rfl⟩ : ∃ m, K = m + 1 := ⟨K - 1, by omega⟩
    have hi : i < x.length := by omega
    rw [List.drop_eq_getElem_cons hi, seqAsk] at h0
    injection h0 with h3 h4
    rw [laws_heldAskS.l0, if_pos (by omega), if_pos (by omega), rdA x i hi, h3, if_pos rfl, wrapN (show v < 9000000000000000000 by omega), if_pos rfl, wrapN (show v + 1 < 9000000000000000000 by omega), wrapN (show i < 9000000000000000000 by omega),
      heldAsks_loop d K (i + 1) x (v + 1 + 1) h4 (by omega) (by omega) hx (by omega), show v + 1 + 1 + 2 * d = v + 2 * (d + 1) by omega]
theorem heldAsks_some (n : Nat) (hn : n ≤ 100000000000000000) (K : Nat) (hK : n < K) : laws_heldAskS.f K (seqAsk 1 n) 1 = some ((1 + 2 * n : Nat) : Int) := by
  unfold laws_heldAskS.f
  exact heldAsks_loop n K 0 (seqAsk 1 n) 1 rfl (by rw [seqAsk_length]; omega) hK (by rw [seqAsk_length]; exact hn) (by omega)

end Go.Proofs.Ytdibbgldclgokaa.PS
