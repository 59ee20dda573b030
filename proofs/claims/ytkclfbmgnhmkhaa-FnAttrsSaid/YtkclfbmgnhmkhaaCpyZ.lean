/- The laws' sizes, copies and comparisons of classes, as plain functions. Plain law; no condition beyond those of the theorems. -/
import Derived.Test.YtkclfbmgnhmkhaaClsZ
namespace Go.Proofs.Ytkclfbmgnhmkhaa.PC
open Go.RowKit Go.Proofs.YtkclfbmgnhmkhaaW.PrintWords Go.Proofs.YtkclfbmgnhmkhaaW.PrintLast
set_option linter.unusedVariables false
set_option linter.unusedSimpArgs false

def toA (a : S81) : S48 := ⟨a.f0, a.f1, a.f2⟩
def toC (c : S61) : S41 := ⟨c.f0, c.f1.map toA⟩

theorem take_set_self {α : Type} {x : List α} {i : Nat} {v : α} (hi : i < x.length) : (x.set i v).take (i + 1) = x.take i ++ [v] := by
  apply List.ext_getElem?
  intro j
  rcases Nat.lt_trichotomy j i with h | h | h
  · rw [List.getElem?_append_left (by simp; omega)]
    simp only [List.getElem?_take, show j < i + 1 by omega, h, if_true, List.getElem?_set, show i ≠ j by omega, if_false]
  · subst h
    rw [List.getElem?_append_right (by simp; omega)]
    simp [hi, Nat.min_eq_left (Nat.le_of_lt hi)]
  · rw [List.getElem?_eq_none (by simp; omega), List.getElem?_eq_none (by simp; omega)]

theorem rd81 (l : List S81) (i : Nat) (h : i < l.length) : rd_T81 l (i : Int) = l[i] := by simp [rd_T81, List.getD_eq_getElem?_getD, List.getElem?_eq_getElem h]
theorem rd61 (l : List S61) (i : Nat) (h : i < l.length) : rd_T61 l (i : Int) = l[i] := by simp [rd_T61, List.getD_eq_getElem?_getD, List.getElem?_eq_getElem h]

theorem toI_loop (x : List Int) (hn : x.length ≤ 35184372088832) (d : Nat) : ∀ (k i : Nat) (y : List Int), x.length = i + d → y.length = x.length → y.take i = x.take i → d < k → laws_toInt64S.l0 k x y (i : Int) = some x := by
  induction d with
  | zero =>
    intro k i y h1 h2 h3 h4
    obtain ⟨k, rfl⟩ : ∃ m, k = m + 1 := ⟨k - 1, by omega⟩
    rw [List.take_of_length_le (by omega), List.take_of_length_le (by omega)] at h3
    rw [laws_toInt64S.l0, if_neg (by omega), h3]
  | succ d ih =>
    intro k i y h1 h2 h3 h4
    obtain ⟨k, rfl⟩ : ∃ m, k = m + 1 := ⟨k - 1, by omega⟩
    have hi : i < x.length := by omega
    rw [laws_toInt64S.l0, if_pos (by omega), if_pos (by omega), if_pos (by omega), rdI x i hi, Int.toNat_natCast, wrap_in _ (by omega) (by omega)]
    exact ih k (i + 1) _ (by omega) (by rw [List.length_set]; exact h2) (by rw [take_set_self (by omega), h3, take_snoc x i hi]) (by omega)
theorem toI_some (x : List Int) (hn : x.length ≤ 35184372088832) (k : Nat) (hk : x.length < k) : laws_toInt64S.f k x = some x := by
  unfold laws_toInt64S.f
  rw [if_pos (by omega), if_pos (by omega), Int.toNat_natCast]
  exact toI_loop x hn x.length k 0 _ (by omega) (by simp) (by simp) hk

theorem toAS_loop (x : List S81) (hn : x.length ≤ 8796093022208) (d : Nat) : ∀ (k i : Nat) (y : List S48), x.length = i + d → y.length = x.length → y.take i = (x.take i).map toA → d < k → laws_toAttrS.l0 k x y (i : Int) = some (x.map toA) := by
  induction d with
  | zero =>
    intro k i y h1 h2 h3 h4
    obtain ⟨k, rfl⟩ : ∃ m, k = m + 1 := ⟨k - 1, by omega⟩
    rw [List.take_of_length_le (by omega), List.take_of_length_le (by omega)] at h3
    rw [laws_toAttrS.l0, if_neg (by omega), h3]
  | succ d ih =>
    intro k i y h1 h2 h3 h4
    obtain ⟨k, rfl⟩ : ∃ m, k = m + 1 := ⟨k - 1, by omega⟩
    have hi : i < x.length := by omega
    rw [laws_toAttrS.l0, if_pos (by omega), if_pos (by omega), rd81 x i hi]
    unfold laws_toAttr.f
    rw [Option.bind_some, if_pos (by omega), Int.toNat_natCast, wrap_in _ (by omega) (by omega)]
    exact ih k (i + 1) _ (by omega) (by rw [List.length_set]; exact h2) (by rw [take_set_self (by omega), h3, take_snoc x i hi, List.map_append]; rfl) (by omega)
theorem toAS_some (x : List S81) (hn : x.length ≤ 8796093022208) (k : Nat) (hk : x.length < k) : laws_toAttrS.f k x = some (x.map toA) := by
  unfold laws_toAttrS.f
  rw [if_pos (by omega), if_pos (by omega), Int.toNat_natCast]
  exact toAS_loop x hn x.length k 0 _ (by omega) (by simp) (by simp) hk

theorem toCS_loop (x : List S61) (hn : x.length ≤ 1048576) (hin : ∀ c ∈ x, c.f0.length ≤ 1048576 ∧ c.f1.length ≤ 1048576) (d : Nat) : ∀ (k i : Nat) (y : List S41), x.length = i + d → y.length = x.length → y.take i = (x.take i).map toC → d + 1048577 < k → laws_toClassS.l0 k x y (i : Int) = some (x.map toC) := by
  induction d with
  | zero =>
    intro k i y h1 h2 h3 h4
    obtain ⟨k, rfl⟩ : ∃ m, k = m + 1 := ⟨k - 1, by omega⟩
    rw [List.take_of_length_le (by omega), List.take_of_length_le (by omega)] at h3
    rw [laws_toClassS.l0, if_neg (by omega), h3]
  | succ d ih =>
    intro k i y h1 h2 h3 h4
    obtain ⟨k, rfl⟩ : ∃ m, k = m + 1 := ⟨k - 1, by omega⟩
    have hi : i < x.length := by omega
    have hc := hin _ (List.getElem_mem hi)
    rw [laws_toClassS.l0, if_pos (by omega), if_pos (by omega), rd61 x i hi]
    unfold laws_toClass.f
    rw [toI_some _ (by omega) k (by omega), Option.bind_some, toAS_some _ (by omega) k (by omega), Option.bind_some, Option.bind_some, if_pos (by omega), Int.toNat_natCast, wrap_in _ (by omega) (by omega)]
    exact ih k (i + 1) _ (by omega) (by rw [List.length_set]; exact h2) (by rw [take_set_self (by omega), h3, take_snoc x i hi, List.map_append]; rfl) (by omega)
theorem toCS_some (x : List S61) (hn : x.length ≤ 1048576) (hin : ∀ c ∈ x, c.f0.length ≤ 1048576 ∧ c.f1.length ≤ 1048576) (k : Nat) (hk : 3000000 ≤ k) : laws_toClassS.f k x = some (x.map toC) := by
  unfold laws_toClassS.f
  rw [if_pos (by omega), if_pos (by omega), Int.toNat_natCast]
  exact toCS_loop x hn hin x.length k 0 _ (by omega) (by simp) (by simp) (by omega)

theorem eqI_loop (x : List Int) (hn : x.length < 9000000000000000000) (d : Nat) : ∀ (k i : Nat), x.length = i + d → d < k → laws_eqInt64S.l0 k x x (i : Int) = some true := by
  induction d with
  | zero =>
    intro k i h1 h2
    obtain ⟨k, rfl⟩ : ∃ m, k = m + 1 := ⟨k - 1, by omega⟩
    rw [laws_eqInt64S.l0, if_neg (by omega)]
  | succ d ih =>
    intro k i h1 h2
    obtain ⟨k, rfl⟩ : ∃ m, k = m + 1 := ⟨k - 1, by omega⟩
    rw [laws_eqInt64S.l0, if_pos (by omega), if_pos (by omega), if_pos (by omega), if_pos rfl, wrap_in _ (by omega) (by omega)]
    exact ih k (i + 1) (by omega) (by omega)
theorem eqI_some (x : List Int) (hn : x.length < 9000000000000000000) (k : Nat) (hk : x.length < k) : laws_eqInt64S.f k x x = some true := by
  unfold laws_eqInt64S.f
  rw [if_pos rfl]
  exact eqI_loop x hn x.length k 0 (by omega) hk
theorem eqA_loop (x : List S48) (hn : x.length < 9000000000000000000) (d : Nat) : ∀ (k i : Nat), x.length = i + d → d < k → laws_eqAttrS.l0 k x x (i : Int) = some true := by
  induction d with
  | zero =>
    intro k i h1 h2
    obtain ⟨k, rfl⟩ : ∃ m, k = m + 1 := ⟨k - 1, by omega⟩
    rw [laws_eqAttrS.l0, if_neg (by omega)]
  | succ d ih =>
    intro k i h1 h2
    obtain ⟨k, rfl⟩ : ∃ m, k = m + 1 := ⟨k - 1, by omega⟩
    rw [laws_eqAttrS.l0, if_pos (by omega), if_pos (by omega), if_pos (by omega)]
    unfold laws_eqAttr.f
    rw [if_pos rfl, if_pos rfl, if_pos rfl, Option.bind_some, if_pos rfl, wrap_in _ (by omega) (by omega)]
    exact ih k (i + 1) (by omega) (by omega)
theorem eqA_some (x : List S48) (hn : x.length < 9000000000000000000) (k : Nat) (hk : x.length < k) : laws_eqAttrS.f k x x = some true := by
  unfold laws_eqAttrS.f
  rw [if_pos rfl]
  exact eqA_loop x hn x.length k 0 (by omega) hk
theorem eqC_loop (x : List S41) (hn : x.length ≤ 1048576) (hin : ∀ c ∈ x, c.f0.length ≤ 1048576 ∧ c.f1.length ≤ 1048576) (d : Nat) : ∀ (k i : Nat), x.length = i + d → d + 1048577 < k → laws_eqClassS.l0 k x x (i : Int) = some true := by
  induction d with
  | zero =>
    intro k i h1 h2
    obtain ⟨k, rfl⟩ : ∃ m, k = m + 1 := ⟨k - 1, by omega⟩
    rw [laws_eqClassS.l0, if_neg (by omega)]
  | succ d ih =>
    intro k i h1 h2
    obtain ⟨k, rfl⟩ : ∃ m, k = m + 1 := ⟨k - 1, by omega⟩
    have hi : i < x.length := by omega
    have hc := hin _ (List.getElem_mem hi)
    rw [laws_eqClassS.l0, if_pos (by omega), if_pos (by omega), if_pos (by omega), rd41 x i hi]
    unfold laws_eqClass.f
    rw [eqI_some _ (by omega) k (by omega), Option.bind_some, if_pos rfl, eqA_some _ (by omega) k (by omega), Option.bind_some, if_pos rfl, Option.bind_some, if_pos rfl, wrap_in _ (by omega) (by omega)]
    exact ih k (i + 1) (by omega) (by omega)
theorem eqC_some (x : List S41) (hn : x.length ≤ 1048576) (hin : ∀ c ∈ x, c.f0.length ≤ 1048576 ∧ c.f1.length ≤ 1048576) (k : Nat) (hk : 3000000 ≤ k) : laws_eqClassS.f k x x = some true := by
  unfold laws_eqClassS.f
  rw [if_pos rfl]
  exact eqC_loop x hn hin x.length k 0 (by omega) (by omega)

/-- Sizes. -/
theorem szA_loop (x : List S81) (hy : ∀ y ∈ x, y.f0.size ≤ 1000000000000000) (hx : x.length ≤ 1048576) (d : Nat) : ∀ (k i : Nat) (v : Int), x.length = i + d → 0 ≤ v → v ≤ 1048576 → d < k → ∃ r, laws_szAttrS.l0 k x v (i : Int) = some r ∧ r ≤ v := by
  induction d with
  | zero =>
    intro k i v h1 h2 h3 h4
    obtain ⟨k, rfl⟩ : ∃ m, k = m + 1 := ⟨k - 1, by omega⟩
    rw [laws_szAttrS.l0, if_neg (by omega)]
    exact ⟨v, rfl, Int.le_refl _⟩
  | succ d ih =>
    intro k i v h1 h2 h3 h4
    obtain ⟨k, rfl⟩ : ∃ m, k = m + 1 := ⟨k - 1, by omega⟩
    have hi : i < x.length := by omega
    have hs := hy _ (List.getElem_mem hi)
    rw [laws_szAttrS.l0, if_pos (by omega), if_pos (by omega), rd81 x i hi]
    unfold laws_szAttr.f
    rw [wrap_in (v - (x[i].f0.size : Int)) (by omega) (by omega)]
    by_cases hneg : v - (x[i].f0.size : Int) < 0
    · rw [if_pos hneg, Option.bind_some, if_pos (by omega)]
      exact ⟨-1, rfl, by omega⟩
    · rw [if_neg hneg, Option.bind_some, if_neg hneg, wrap_in ((i : Int) + 1) (by omega) (by omega)]
      obtain ⟨r, e, hr⟩ := ih k (i + 1) (v - (x[i].f0.size : Int)) (by omega) (by omega) (by omega) (by omega)
      exact ⟨r, e, by omega⟩
theorem szA_some (x : List S81) (hy : ∀ y ∈ x, y.f0.size ≤ 1000000000000000) (hx : x.length ≤ 1000000000000000) (v : Int) (h0 : 0 ≤ v) (h1 : v ≤ 1048576) (k : Nat) (hk : 1048577 < k) : ∃ r, laws_szAttrS.f k x v = some r ∧ r ≤ v ∧ (r < 0 ∨ x.length ≤ 1048576) := by
  unfold laws_szAttrS.f
  rw [wrap_in (v - (x.length : Int)) (by omega) (by omega)]
  by_cases hneg : v - (x.length : Int) < 0
  · rw [if_pos hneg]
    exact ⟨-1, rfl, by omega, Or.inl (by omega)⟩
  · rw [if_neg hneg]
    obtain ⟨r, e, hr⟩ := szA_loop x hy (by omega) x.length k 0 (v - (x.length : Int)) (by omega) (by omega) (by omega) (by omega)
    exact ⟨r, e, by omega, Or.inr (by omega)⟩
theorem szC_loop (x : List S61) (hy : ∀ c ∈ x, c.f0.length ≤ 1000000000000000 ∧ c.f1.length ≤ 1000000000000000 ∧ ∀ y ∈ c.f1, y.f0.size ≤ 1000000000000000) (hx : x.length ≤ 1048576) (d : Nat) :
    ∀ (k i : Nat) (v : Int), x.length = i + d → 0 ≤ v → v ≤ 1048576 → d + 1048577 < k → (∀ c ∈ x.take i, c.f0.length ≤ 1048576 ∧ c.f1.length ≤ 1048576) → ∃ r, laws_szClassS.l0 k x v (i : Int) = some r ∧ r ≤ v ∧ (r < 0 ∨ ∀ c ∈ x, c.f0.length ≤ 1048576 ∧ c.f1.length ≤ 1048576) := by
  induction d with
  | zero =>
    intro k i v h1 h2 h3 h4 h5
    obtain ⟨k, rfl⟩ : ∃ m, k = m + 1 := ⟨k - 1, by omega⟩
    rw [List.take_of_length_le (by omega)] at h5
    rw [laws_szClassS.l0, if_neg (by omega)]
    exact ⟨v, rfl, Int.le_refl _, Or.inr h5⟩
  | succ d ih =>
    intro k i v h1 h2 h3 h4 h5
    obtain ⟨k, rfl⟩ : ∃ m, k = m + 1 := ⟨k - 1, by omega⟩
    have hi : i < x.length := by omega
    obtain ⟨q0, q1, q2⟩ := hy _ (List.getElem_mem hi)
    rw [laws_szClassS.l0, if_pos (by omega), if_pos (by omega), rd61 x i hi]
    unfold laws_szClass.f laws_szInt64S.f
    rw [wrap_in (v - (x[i].f0.length : Int)) (by omega) (by omega)]
    by_cases hneg : v - (x[i].f0.length : Int) < 0
    · rw [if_pos hneg, Option.bind_some, if_pos (by omega), Option.bind_some, if_pos (by omega)]
      exact ⟨-1, rfl, by omega, Or.inl (by omega)⟩
    · obtain ⟨r, e, hr, hr2⟩ := szA_some x[i].f1 q2 q1 (v - (x[i].f0.length : Int)) (by omega) (by omega) k (by omega)
      rw [if_neg hneg, Option.bind_some, if_neg hneg, e, Option.bind_some]
      by_cases hr3 : r < 0
      · rw [if_pos hr3, Option.bind_some, if_pos (by omega)]
        exact ⟨-1, rfl, by omega, Or.inl (by omega)⟩
      · rw [if_neg hr3, Option.bind_some, if_neg hr3, wrap_in ((i : Int) + 1) (by omega) (by omega)]
        obtain ⟨r', e', h6, h7⟩ := ih k (i + 1) r (by omega) (by omega) (by omega) (by omega) (fun c hc => by
          rw [take_snoc x i hi] at hc
          rcases List.mem_append.1 hc with hc | hc
          · exact h5 c hc
          · rw [List.mem_singleton.1 hc]
            exact ⟨by omega, by omega⟩)
        exact ⟨r', e', by omega, h7⟩
theorem szC_some (x : List S61) (hy : ∀ c ∈ x, c.f0.length ≤ 1000000000000000 ∧ c.f1.length ≤ 1000000000000000 ∧ ∀ y ∈ c.f1, y.f0.size ≤ 1000000000000000) (hx : x.length ≤ 1000000000000000) (k : Nat) (hk : 3000000 ≤ k) :
    ∃ r, laws_szClassS.f k x 1048576 = some r ∧ r ≤ 1048576 ∧ (r < 0 ∨ (x.length ≤ 1048576 ∧ ∀ c ∈ x, c.f0.length ≤ 1048576 ∧ c.f1.length ≤ 1048576)) := by
  unfold laws_szClassS.f
  rw [wrap_in (1048576 - (x.length : Int)) (by omega) (by omega)]
  by_cases hneg : 1048576 - (x.length : Int) < 0
  · rw [if_pos hneg]
    exact ⟨-1, rfl, by omega, Or.inl (by omega)⟩
  · rw [if_neg hneg]
    obtain ⟨r, e, h6, h7⟩ := szC_loop x hy (by omega) x.length k 0 (1048576 - (x.length : Int)) (by omega) (by omega) (by omega) (by omega) (by simp)
    exact ⟨r, e, by omega, h7.imp id (fun h => ⟨by omega, h⟩)⟩

/-- What the law's precondition says, in numbers. -/
def Small (x : List S61) : Prop := (∀ c ∈ x, c.f0.length ≤ 1000000000000000 ∧ c.f1.length ≤ 1000000000000000 ∧ ∀ y ∈ c.f1, y.f0.size ≤ 1000000000000000) ∧ x.length ≤ 1000000000000000
theorem small_of {l0 : List S61} (h : l0.length * 48 ≤ 140737488351232 ∧ ∀ x0 ∈ l0, ((x0.f0.length * 8 ≤ 140737488351232 ∧ ∀ x1 ∈ x0.f0, (Lit.int .i64 x1).wf = true) ∧ (x0.f1.length * 32 ≤ 140737488351232 ∧ ∀ x1 ∈ x0.f1, (x1.f0.size ≤ 140737488351232 ∧ ((Lit.int .i64 x1.f1).wf = true ∧ (Lit.int .i64 x1.f2).wf = true))))) : Small l0 :=
  ⟨fun c hc => by
    obtain ⟨⟨a, _⟩, b, d⟩ := h.2 c hc
    exact ⟨by omega, by omega, fun y hy => by have := (d y hy).1; omega⟩, by have := h.1; omega⟩

theorem toC_small {x : List S61} (hin : ∀ c ∈ x, c.f0.length ≤ 1048576 ∧ c.f1.length ≤ 1048576) : ∀ c ∈ x.map toC, c.f0.length ≤ 1048576 ∧ c.f1.length ≤ 1048576 := by
  intro c hc
  obtain ⟨y, hy, rfl⟩ := List.mem_map.1 hc
  have := hin y hy
  unfold toC
  simp only [List.length_map]
  exact this

end Go.Proofs.Ytkclfbmgnhmkhaa.PC
