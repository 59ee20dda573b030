/- Lists of limbs, lowest first, and their values. Plain law; no condition beyond those of the theorems. -/
import Derived.RowKit
namespace Go.Proofs.Ytghjbadanhplnaa.Limb
set_option linter.unusedVariables false
set_option linter.unusedSimpArgs false

def valL : List Int → Int
  | [] => 0
  | x :: r => x + 4294967296 * valL r
def okL (l : List Int) : Prop := ∀ x ∈ l, 0 ≤ x ∧ x ≤ 4294967295
def trimL (l : List Int) : Prop := ∀ x, l.getLast? = some x → x ≠ 0

theorem pow_pos (n : Nat) : (0 : Int) < 4294967296 ^ n := Int.pow_pos (by decide)
theorem valL_append : ∀ (a b : List Int), valL (a ++ b) = valL a + 4294967296 ^ a.length * valL b
  | [], b => by simp [valL]
  | x :: r, b => by
    rw [List.cons_append, valL, valL, valL_append r b, List.length_cons, Int.pow_succ, Int.mul_add, Int.add_assoc, ← Int.mul_assoc, Int.mul_comm 4294967296 (4294967296 ^ r.length)]
theorem valL_snoc (a : List Int) (x : Int) : valL (a ++ [x]) = valL a + 4294967296 ^ a.length * x := by
  rw [valL_append]
  simp [valL]
theorem okL_nil : okL [] := by simp [okL]
theorem okL.tail {x : Int} {r : List Int} (h : okL (x :: r)) : okL r := fun y hy => h y (List.mem_cons_of_mem _ hy)
theorem okL.append {a b : List Int} (h : okL a) (k : okL b) : okL (a ++ b) := fun x hx => by
  rcases List.mem_append.1 hx with hx | hx
  · exact h x hx
  · exact k x hx
theorem okL.snoc {a : List Int} {x : Int} (h : okL a) (h0 : 0 ≤ x) (h1 : x ≤ 4294967295) : okL (a ++ [x]) := h.append (fun y hy => by rw [List.mem_singleton.1 hy]; exact ⟨h0, h1⟩)
theorem okL.take {a : List Int} (h : okL a) (n : Nat) : okL (a.take n) := fun x hx => h x (List.mem_of_mem_take hx)
theorem okL.get {a : List Int} (h : okL a) (i : Nat) (hi : i < a.length) : 0 ≤ a[i] ∧ a[i] ≤ 4294967295 := h _ (List.getElem_mem hi)
theorem okL.set {a : List Int} (h : okL a) (i : Nat) (x : Int) (h0 : 0 ≤ x) (h1 : x ≤ 4294967295) : okL (a.set i x) := fun y hy => by
  rcases List.mem_or_eq_of_mem_set hy with hy | hy
  · exact h y hy
  · rw [hy]; exact ⟨h0, h1⟩
theorem okL_zeros (n : Nat) : okL (List.replicate n 0) := fun x hx => by
  rw [List.eq_of_mem_replicate hx]
  decide
theorem valL_zeros : ∀ n : Nat, valL (List.replicate n 0) = 0
  | 0 => rfl
  | n + 1 => by rw [List.replicate_succ, valL, valL_zeros n]; rfl
theorem valL_nonneg : ∀ {l : List Int}, okL l → 0 ≤ valL l
  | [], _ => Int.le_refl _
  | x :: r, h => by
    have h1 := valL_nonneg h.tail
    have h2 := h x (List.mem_cons_self ..)
    rw [valL]
    omega
theorem valL_lt : ∀ {l : List Int}, okL l → valL l < 4294967296 ^ l.length
  | [], _ => by simp [valL]
  | x :: r, h => by
    have h1 := valL_lt h.tail
    have h2 := h x (List.mem_cons_self ..)
    rw [valL, List.length_cons, Int.pow_succ]
    omega
theorem take_succ {l : List Int} (i : Nat) (hi : i < l.length) : l.take (i + 1) = l.take i ++ [l[i]] := List.take_succ_eq_append_getElem hi
theorem valL_take_succ {l : List Int} (i : Nat) (hi : i < l.length) : valL (l.take (i + 1)) = valL (l.take i) + 4294967296 ^ i * l[i] := by
  rw [take_succ i hi, valL_snoc, List.length_take, Nat.min_eq_left (by omega)]
theorem valL_set : ∀ (l : List Int) (p : Nat) (x : Int) (hp : p < l.length), valL (l.set p x) = valL l + 4294967296 ^ p * (x - l[p])
  | [], p, x, hp => by simp at hp
  | y :: r, 0, x, hp => by
    rw [List.set_cons_zero, valL, valL]
    simp
    omega
  | y :: r, p + 1, x, hp => by
    rw [List.set_cons_succ, valL, valL, valL_set r p x (by simpa using hp), Int.pow_succ, List.getElem_cons_succ, Int.mul_add, ← Int.mul_assoc, Int.mul_comm 4294967296 (4294967296 ^ p)]
    omega
theorem trimL_nil : trimL [] := by simp [trimL]
/-- A trimL list's top limb counts. -/
theorem valL_low {l : List Int} (h : okL l) (ht : trimL l) (hne : l ≠ []) : 4294967296 ^ (l.length - 1) ≤ valL l := by
  obtain ⟨r, x, rfl⟩ : ∃ r x, l = r ++ [x] := ⟨l.dropLast, l.getLast hne, (List.dropLast_concat_getLast hne).symm⟩
  have hx := ht x (by simp)
  have hx2 := h x (by simp)
  have h1 := valL_nonneg (l := r) (fun y hy => h y (List.mem_append_left _ hy))
  have hp := pow_pos r.length
  rw [valL_snoc, List.length_append, List.length_singleton, Nat.add_sub_cancel]
  have h2 : 4294967296 ^ r.length * 1 ≤ 4294967296 ^ r.length * x := Int.mul_le_mul_of_nonneg_left (by omega) (Int.le_of_lt hp)
  omega
theorem valL_zero {l : List Int} (h : okL l) (ht : trimL l) : valL l = 0 ↔ l = [] := by
  constructor
  · intro e
    by_cases hn : l = []
    · exact hn
    · have h1 := valL_low h ht hn
      have h2 := pow_pos (l.length - 1)
      omega
  · rintro rfl
    rfl
theorem pow_mono {a b : Nat} (h : a ≤ b) : (4294967296 : Int) ^ a ≤ 4294967296 ^ b := by
  obtain ⟨d, rfl⟩ : ∃ d, b = a + d := ⟨b - a, by omega⟩
  have h1 := pow_pos a
  have h2 := pow_pos d
  rw [Int.pow_add]
  have h3 := Int.mul_le_mul_of_nonneg_left (show (1 : Int) ≤ 4294967296 ^ d by omega) (Int.le_of_lt h1)
  rw [Int.mul_one] at h3
  exact h3
theorem valL_shorter {a b : List Int} (ha : okL a) (hb : okL b) (tb : trimL b) (h : a.length < b.length) : valL a < valL b := by
  have h1 := valL_lt ha
  have h2 := valL_low hb tb (by intro e; rw [e] at h; simp at h)
  have h3 := pow_mono (show a.length ≤ b.length - 1 by omega)
  omega
/-- Lists alike above place i: the place decides. -/
theorem valL_top {a b : List Int} (ha : okL a) (hb : okL b) (i : Nat) (hi : i < a.length) (hj : i < b.length) (ht : a.drop (i + 1) = b.drop (i + 1)) (hlt : a[i] < b[i]) : valL a < valL b := by
  have ea : valL a = valL (a.take i) + 4294967296 ^ i * (a[i] + 4294967296 * valL (a.drop (i + 1))) := by
    conv => lhs; rw [← List.take_append_drop i a, valL_append, List.length_take, Nat.min_eq_left (by omega), List.drop_eq_getElem_cons hi, valL]
  have eb : valL b = valL (b.take i) + 4294967296 ^ i * (b[i] + 4294967296 * valL (b.drop (i + 1))) := by
    conv => lhs; rw [← List.take_append_drop i b, valL_append, List.length_take, Nat.min_eq_left (by omega), List.drop_eq_getElem_cons hj, valL]
  rw [ea, eb, ht]
  have h1 := valL_lt (ha.take i)
  rw [List.length_take, Nat.min_eq_left (by omega)] at h1
  have h2 := valL_nonneg (hb.take i)
  have hp := pow_pos i
  generalize valL (b.drop (i + 1)) = q at *
  have h3 : 4294967296 ^ i * (a[i] + 4294967296 * q + 1) ≤ 4294967296 ^ i * (b[i] + 4294967296 * q) := Int.mul_le_mul_of_nonneg_left (by omega) (Int.le_of_lt hp)
  rw [Int.mul_add _ _ 1, Int.mul_one] at h3
  omega

end Go.Proofs.Ytghjbadanhplnaa.Limb
