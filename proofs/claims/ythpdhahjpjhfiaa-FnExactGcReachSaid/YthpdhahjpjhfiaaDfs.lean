/- What can be reached from a row of roots along a row of edges, by a stack: the law of the search, in plain words. No condition beyond those of the theorems. -/
import Derived.WalkKit
set_option linter.unusedSimpArgs false
set_option linter.unusedVariables false
namespace Go.Proofs.Ythpdhahjpjhfiaa.Dfs

/-- Reached from the roots R along the edges E. -/
inductive Rch (E : List (Int × Int)) (R : List Int) : Int → Prop
  | root (x : Int) : x ∈ R → Rch E R x
  | step (x y : Int) : Rch E R x → (x, y) ∈ E → Rch E R y

/-- What x holds, in order. -/
def nextOf (E : List (Int × Int)) (x : Int) : List Int := (E.filter (fun p => decide (p.1 = x))).map (·.2)

theorem mem_nextOf {E : List (Int × Int)} {x y : Int} : y ∈ nextOf E x ↔ (x, y) ∈ E := by
  simp only [nextOf, List.mem_map, List.mem_filter, decide_eq_true_eq]
  constructor
  · rintro ⟨⟨a, b⟩, ⟨h1, h2⟩, h3⟩
    simp only at h2 h3
    rw [← h2, ← h3]
    exact h1
  · intro h
    exact ⟨(x, y), ⟨h, rfl⟩, rfl⟩

theorem nextOf_snoc (E : List (Int × Int)) (a b x : Int) : nextOf (E ++ [(a, b)]) x = if x = a then nextOf E x ++ [b] else nextOf E x := by
  simp only [nextOf, List.filter_append, List.map_append]
  by_cases h : x = a
  · rw [if_pos h]
    simp [h]
  · rw [if_neg h]
    have : ¬ a = x := fun e => h e.symm
    simp [this]

theorem nextOf_length (E : List (Int × Int)) (x : Int) : (nextOf E x).length ≤ E.length := by
  simp only [nextOf, List.length_map]
  exact List.length_filter_le _ _

/-- Is x seen? -/
def has (seen : List Bool) (x : Int) : Bool := seen.getD x.toNat false

/-- The search: rev is the stack, its top first; F rounds at most. -/
def dfs (E : List (Int × Int)) : Nat → List Bool → List Int → Option (List Bool)
  | _, seen, [] => some seen
  | 0, _, _ :: _ => none
  | F + 1, seen, x :: r => if has seen x then dfs E F seen r else dfs E F (seen.set x.toNat true) ((nextOf E x).reverse ++ r)

theorem has_set {seen : List Bool} {x : Int} (hx : x.toNat < seen.length) (hx0 : 0 ≤ x) {y : Int} (hy : 0 ≤ y) : has (seen.set x.toNat true) y = if y = x then true else has seen y := by
  simp only [has, List.getD_eq_getElem?_getD, List.getElem?_set]
  by_cases h : y = x
  · subst h
    simp [hx]
  · have : ¬ x.toNat = y.toNat := by omega
    simp [h, this]

/-- The edges of which the first end isn't seen. -/
def open_ (E : List (Int × Int)) (seen : List Bool) : Nat := (E.filter (fun p => !(has seen p.1))).length

theorem open_set (seen : List Bool) (x : Int) (hx0 : 0 ≤ x) (hx : x.toNat < seen.length) (hn : has seen x = false) : ∀ (E : List (Int × Int)), (∀ p ∈ E, 0 ≤ p.1) →
    open_ E (seen.set x.toNat true) + (nextOf E x).length = open_ E seen
  | [], _ => rfl
  | (a, b) :: E, hE => by
    have ih := open_set seen x hx0 hx hn E (fun p hp => hE p (by simp [hp]))
    have ha : 0 ≤ a := hE (a, b) (by simp)
    simp only [open_, nextOf, List.length_map] at ih ⊢
    rw [List.filter_cons, List.filter_cons, List.filter_cons, has_set hx hx0 ha]
    by_cases h : a = x
    · subst h
      simp only [hn, decide_true, if_true, Bool.not_true, Bool.false_eq_true, if_false, Bool.not_false, List.length_cons]
      omega
    · simp only [h, if_false, decide_false, Bool.false_eq_true]
      cases has seen a with
      | true => simpa using ih
      | false =>
        simp only [Bool.not_false, if_true, List.length_cons]
        omega

/-- With as many rounds as there are things on the stack and edges left, the search ends. -/
theorem dfs_ends (E : List (Int × Int)) (n : Nat) (hE : ∀ p ∈ E, 0 ≤ p.1 ∧ 0 ≤ p.2 ∧ p.2.toNat < n) : ∀ (F : Nat) (seen : List Bool) (rev : List Int), seen.length = n → (∀ x ∈ rev, 0 ≤ x ∧ x.toNat < n) →
    rev.length + open_ E seen ≤ F → ∃ s, dfs E F seen rev = some s
  | F, seen, [], _, _, _ => ⟨seen, by cases F <;> rfl⟩
  | 0, seen, x :: r, _, _, h => by simp at h
  | F + 1, seen, x :: r, hl, hr, h => by
    have hx := hr x (by simp)
    rw [dfs]
    cases hh : has seen x with
    | true =>
      rw [if_pos rfl]
      exact dfs_ends E n hE F seen r hl (fun y hy => hr y (by simp [hy])) (by simp only [List.length_cons] at h; omega)
    | false =>
      rw [if_neg (by simp)]
      have h1 := open_set seen x hx.1 (by omega) hh E (fun p hp => (hE p hp).1)
      refine dfs_ends E n hE F _ _ (by simpa using hl) (fun y hy => ?_) ?_
      · rcases List.mem_append.1 hy with hy | hy
        · rw [List.mem_reverse, mem_nextOf] at hy
          exact (hE _ hy).2
        · exact hr y (by simp [hy])
      · simp only [List.length_append, List.length_reverse, List.length_cons] at h ⊢
        omega

theorem dfs_length (E : List (Int × Int)) : ∀ (F : Nat) (seen : List Bool) (rev : List Int) (s : List Bool), dfs E F seen rev = some s → s.length = seen.length
  | F, seen, [], s, h => by
    have : some seen = some s := by cases F <;> exact h
    rw [Option.some.inj this]
  | 0, seen, x :: r, s, h => by simp [dfs] at h
  | F + 1, seen, x :: r, s, h => by
    rw [dfs] at h
    cases hh : has seen x with
    | true =>
      rw [hh, if_pos rfl] at h
      exact dfs_length E F _ _ s h
    | false =>
      rw [hh, if_neg (by simp)] at h
      have := dfs_length E F _ _ s h
      simpa using this

/-- A row of seen things that holds the roots, only what is reached, and what each of its things holds: it is what is reached. -/
theorem closed_is {E : List (Int × Int)} {R : List Int} {s : Int → Bool} (h1 : ∀ x, s x = true → Rch E R x) (h2 : ∀ x ∈ R, s x = true) (h3 : ∀ x y, s x = true → (x, y) ∈ E → s y = true) (x : Int) : s x = true ↔ Rch E R x := by
  refine ⟨h1 x, fun h => ?_⟩
  induction h with
  | root x hx => exact h2 x hx
  | step x y _ he ih => exact h3 x y ih he

/-- What the search sees is what is reached. -/
theorem dfs_is (E : List (Int × Int)) (R : List Int) (n : Nat) (hE : ∀ p ∈ E, 0 ≤ p.1 ∧ 0 ≤ p.2 ∧ p.2.toNat < n) : ∀ (F : Nat) (seen : List Bool) (rev : List Int) (s : List Bool), seen.length = n → (∀ x ∈ rev, 0 ≤ x ∧ x.toNat < n) →
    (∀ x, 0 ≤ x → has seen x = true → Rch E R x) → (∀ x ∈ rev, Rch E R x) → (∀ x ∈ R, has seen x = true ∨ x ∈ rev) → (∀ x y, 0 ≤ x → has seen x = true → (x, y) ∈ E → has seen y = true ∨ y ∈ rev) →
    dfs E F seen rev = some s →
    (∀ x, 0 ≤ x → has s x = true → Rch E R x) ∧ (∀ x ∈ R, has s x = true) ∧ (∀ x y, 0 ≤ x → has s x = true → (x, y) ∈ E → has s y = true)
  | F, seen, [], s, _, _, h1, _, h3, h4, h => by
    have h5 : some seen = some s := by cases F <;> exact h
    obtain rfl := Option.some.inj h5
    exact ⟨h1, fun x hx => (h3 x hx).resolve_right (by simp), fun x y hx h6 he => (h4 x y hx h6 he).resolve_right (by simp)⟩
  | 0, seen, x :: r, s, _, _, _, _, _, _, h => by simp [dfs] at h
  | F + 1, seen, x :: r, s, hl, hr, h1, h2, h3, h4, h => by
    have hx := hr x (by simp)
    rw [dfs] at h
    cases hh : has seen x with
    | true =>
      rw [hh, if_pos rfl] at h
      refine dfs_is E R n hE F seen r s hl (fun y hy => hr y (by simp [hy])) h1 (fun y hy => h2 y (by simp [hy])) (fun y hy => ?_) (fun y z hy h5 he => ?_) h
      · rcases h3 y hy with h6 | h6
        · exact .inl h6
        · rcases List.mem_cons.1 h6 with rfl | h6
          · exact .inl hh
          · exact .inr h6
      · rcases h4 y z hy h5 he with h6 | h6
        · exact .inl h6
        · rcases List.mem_cons.1 h6 with rfl | h6
          · exact .inl hh
          · exact .inr h6
    | false =>
      rw [hh, if_neg (by simp)] at h
      have hset : ∀ y : Int, 0 ≤ y → has (seen.set x.toNat true) y = if y = x then true else has seen y := fun y hy => has_set (by omega) hx.1 hy
      have hR : ∀ y : Int, y < 0 → has (seen.set x.toNat true) y = has (seen.set x.toNat true) 0 := fun y hy => by
        simp only [has]
        congr 1
        omega
      refine dfs_is E R n hE F _ _ s (by simpa using hl) (fun y hy => ?_) (fun y hy h5 => ?_) (fun y hy => ?_) (fun y hy => ?_) (fun y z hy h5 he => ?_) h
      · rcases List.mem_append.1 hy with hy | hy
        · rw [List.mem_reverse, mem_nextOf] at hy
          exact (hE _ hy).2
        · exact hr y (by simp [hy])
      · rw [hset y hy] at h5
        by_cases h6 : y = x
        · rw [h6]; exact h2 x (by simp)
        · rw [if_neg h6] at h5; exact h1 y hy h5
      · rcases List.mem_append.1 hy with hy | hy
        · rw [List.mem_reverse, mem_nextOf] at hy
          exact .step x y (h2 x (by simp)) hy
        · exact h2 y (by simp [hy])
      · rcases h3 y hy with h6 | h6
        · by_cases h7 : 0 ≤ y
          · rw [hset y h7]
            refine .inl ?_
            by_cases h8 : y = x
            · rw [if_pos h8]
            · rw [if_neg h8]; exact h6
          · rw [hR y (by omega), hset 0 (by omega)]
            refine .inl ?_
            by_cases h8 : (0 : Int) = x
            · rw [if_pos h8]
            · rw [if_neg h8]
              rw [← h6]
              simp only [has]
              congr 1
              omega
        · rcases List.mem_cons.1 h6 with rfl | h6
          · rw [hset y hx.1, if_pos rfl]; exact .inl rfl
          · exact .inr (List.mem_append.2 (.inr h6))
      · have hz := (hE _ he).2
        rw [hset y hy] at h5
        by_cases h6 : y = x
        · subst h6
          exact .inr (List.mem_append.2 (.inl (by rw [List.mem_reverse, mem_nextOf]; exact he)))
        · rw [if_neg h6] at h5
          rcases h4 y z hy h5 he with h7 | h7
          · rw [hset z hz.1]
            refine .inl ?_
            by_cases h8 : z = x
            · rw [if_pos h8]
            · rw [if_neg h8]; exact h7
          · rcases List.mem_cons.1 h7 with rfl | h7
            · rw [hset z hz.1, if_pos rfl]; exact .inl rfl
            · exact .inr (List.mem_append.2 (.inr h7))

/-- The things 1 to m that are seen, in order. -/
def outs (seen : List Bool) (m : Nat) : List Int := ((List.range m).filter (fun (i : Nat) => has seen ((i : Int) + 1))).map (fun (i : Nat) => (i : Int) + 1)

theorem outs_succ (seen : List Bool) (m : Nat) : outs seen (m + 1) = if has seen ((m : Int) + 1) then outs seen m ++ [(m : Int) + 1] else outs seen m := by
  simp only [outs, List.range_succ, List.filter_append, List.map_append]
  cases h : has seen ((m : Int) + 1) <;> simp [h]

end Go.Proofs.Ythpdhahjpjhfiaa.Dfs
