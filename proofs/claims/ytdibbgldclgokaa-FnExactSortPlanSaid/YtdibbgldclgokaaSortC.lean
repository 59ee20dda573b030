/- The sort in plain words: what comes of answers that end. No condition beyond those of the theorems. -/
import Derived.Test.YtdibbgldclgokaaSortM
set_option linter.unusedSimpArgs false
set_option linter.unusedVariables false
namespace Go.Proofs.Ytdibbgldclgokaa.SortM

/-- What asks. -/
abbrev Ask (α : Type) := Oracle → Asked → Asked × Option α
/-- With answers that end behind m questions it asks one more, and stops; with enough of them it is as it was. -/
def Cut {α : Type} (F : Ask α) : Prop := ∀ (O O' : Oracle) (m : Nat) (s s' : Asked) (r : Option α), F O s = (s', r) → s.length ≤ m → (∀ k a b, m ≤ k → O' k a b = none) → (∀ k p, k < m → s'[k]? = some p → O' k p.1 p.2 = O k p.1 p.2) →
  (∃ t, s' = s ++ t) ∧ (s'.length ≤ m → F O' s = (s', r)) ∧ (m < s'.length → F O' s = (s'.take (m + 1), none))

def askM (a b : Int) : Ask Bool := fun O s => (s ++ [(a, b)], O s.length a b)
def bindM {α β : Type} (F : Ask α) (G : α → Ask β) : Ask β := fun O s => match F O s with
  | (s', none) => (s', none)
  | (s', some x) => G x O s'

theorem cut_pure {α : Type} (x : Option α) : Cut (fun _ s => (s, x)) := by
  intro O O' m s s' r h hs _ _
  injection h with h1 h2
  subst h1 h2
  exact ⟨⟨[], by rw [List.append_nil]⟩, fun _ => rfl, fun h => by omega⟩
theorem cut_ask (a b : Int) : Cut (askM a b) := by
  intro O O' m s s' r h hs h1 h2
  unfold askM at h
  injection h with e1 e2
  subst e1 e2
  refine ⟨⟨_, rfl⟩, fun hl => ?_, fun hl => ?_⟩
  · rw [List.length_append, List.length_singleton] at hl
    have := h2 s.length (a, b) (by omega) (by simp)
    unfold askM
    rw [this]
  · rw [List.length_append, List.length_singleton] at hl
    unfold askM
    rw [h1 s.length a b (by omega), List.take_of_length_le (by rw [List.length_append, List.length_singleton]; omega)]
theorem cut_bind {α β : Type} {F : Ask α} {G : α → Ask β} (hF : Cut F) (hG : ∀ x, Cut (G x)) : Cut (bindM F G) := by
  intro O O' m s s' r h hs h1 h2
  unfold bindM at h ⊢
  rcases hq : F O s with ⟨s1, r1⟩
  rw [hq] at h
  cases r1 with
  | none =>
    injection h with e1 e2
    subst e1 e2
    obtain ⟨q1, q2, q3⟩ := hF O O' m s s1 none hq hs h1 h2
    refine ⟨q1, fun hl => ?_, fun hl => ?_⟩
    · rw [q2 hl]
    · rw [q3 hl]
  | some x =>
    have h' : G x O s1 = (s', r) := h
    have hpre : ∃ t, s' = s1 ++ t := by
      obtain ⟨q1, _⟩ := hG x O (fun k a b => if k < s'.length + s1.length then O k a b else none) (s'.length + s1.length) s1 s' r h' (by omega) (fun k a b hk => if_neg (by omega)) (fun k p hk _ => if_pos hk)
      exact q1
    obtain ⟨t2, rfl⟩ := hpre
    obtain ⟨⟨t1, rfl⟩, q2, q3⟩ := hF O O' m s s1 (some x) hq hs h1 (fun k p hk hp => h2 k p hk (by
      have := (List.getElem?_eq_some_iff.1 hp).1
      rw [List.getElem?_append_left this]; exact hp))
    refine ⟨⟨t1 ++ t2, List.append_assoc _ _ _⟩, fun hl => ?_, fun hl => ?_⟩
    · have hl1 : (s ++ t1).length ≤ m := by rw [List.length_append] at hl; omega
      rw [q2 hl1]
      exact (hG x O O' m _ _ r h' hl1 h1 h2).2.1 hl
    · by_cases hl1 : (s ++ t1).length ≤ m
      · rw [q2 hl1]
        exact (hG x O O' m _ _ r h' hl1 h1 h2).2.2 hl
      · rw [q3 (by omega)]
        rw [List.take_append_of_le_length (l₁ := s ++ t1) (by omega)]

theorem ascend_bind (n : Int) (down : Bool) (f : Nat) (i : Int) (hc : i < n) : (fun O s => ascend O n down (f + 1) s i) = bindM (askM i (i - 1)) (fun b O s => if b = down then ascend O n down f s (i + 1) else (s, some i)) := by
  funext O s
  rw [ascend, if_pos hc]
  unfold bindM askM
  cases O s.length i (i - 1) <;> rfl
theorem ascend_end (n : Int) (down : Bool) (f : Nat) (i : Int) (hc : ¬ i < n) : (fun O s => ascend O n down (f + 1) s i) = fun _ s => (s, some i) := by
  funext O s
  rw [ascend, if_neg hc]
theorem place_bind (run : List Int) (i : Int) (f lo hi : Nat) (hc : lo < hi) : (fun O s => place O run i (f + 1) s lo hi) = bindM (askM i (run.getD ((lo + hi) / 2) 0)) (fun b O s => if b = true then place O run i f s lo ((lo + hi) / 2) else place O run i f s ((lo + hi) / 2 + 1) hi) := by
  funext O s
  rw [place, if_pos hc]
  unfold bindM askM
  rcases O s.length i (run.getD ((lo + hi) / 2) 0) with _ | b
  · rfl
  · cases b <;> rfl
theorem place_end (run : List Int) (i : Int) (f lo hi : Nat) (hc : ¬ lo < hi) : (fun O s => place O run i (f + 1) s lo hi) = fun _ s => (s, some lo) := by
  funext O s
  rw [place, if_neg hc]
theorem fill_bind (n : Int) (f : Nat) (run : List Int) (i : Int) (hc : i < n ∧ run.length < 6) : (fun O s => fill O n (f + 1) s run i) = bindM (fun O s => place O run i 10 s 0 run.length) (fun p O s => fill O n f s (run.take p ++ i :: run.drop p) (i + 1)) := by
  funext O s
  rw [fill, if_pos hc]
  unfold bindM
  dsimp only
  rcases place O run i 10 s 0 run.length with ⟨s', _ | p⟩ <;> rfl
theorem fill_end (n : Int) (f : Nat) (run : List Int) (i : Int) (hc : ¬ (i < n ∧ run.length < 6)) : (fun O s => fill O n (f + 1) s run i) = fun _ s => (s, some (run, i)) := by
  funext O s
  rw [fill, if_neg hc]
theorem run1_bind (n i : Int) (hc : i + 1 < n) : (fun O s => run1 O n s i) = bindM (askM (i + 1) i) (fun down => bindM (fun O s => ascend O n down n.toNat s (i + 2)) (fun j O s => fill O n 6 s (if down = true then (span i (j - i).toNat).reverse else span i (j - i).toNat) j)) := by
  funext O s
  unfold run1
  rw [if_pos hc]
  unfold bindM askM
  cases O s.length (i + 1) i with
  | none => rfl
  | some down =>
    dsimp only
    rcases ascend O n down n.toNat (s ++ [(i + 1, i)]) (i + 2) with ⟨s', _ | j⟩ <;> rfl
theorem run1_end (n i : Int) (hc : ¬ i + 1 < n) : (fun O s => run1 O n s i) = fun _ s => (s, some ([i], i + 1)) := by
  funext O s
  unfold run1
  rw [if_neg hc]
theorem runs_bind (n : Int) (f : Nat) (i : Int) (R : List (List Int)) (hc : i < n) : (fun O s => runs O n (f + 1) s i R) = bindM (fun O s => run1 O n s i) (fun p O s => runs O n f s p.2 (R ++ [p.1])) := by
  funext O s
  rw [runs, if_pos hc]
  unfold bindM
  dsimp only
  rcases run1 O n s i with ⟨s', _ | ⟨r, j⟩⟩ <;> rfl
theorem runs_end (n : Int) (f : Nat) (i : Int) (R : List (List Int)) (hc : ¬ i < n) : (fun O s => runs O n (f + 1) s i R) = fun _ s => (s, some R) := by
  funext O s
  rw [runs, if_neg hc]
theorem merge_left (f : Nat) (b out : List Int) : (fun O s => merge O (f + 1) s [] b out) = fun _ s => (s, some (out ++ b)) := by funext O s; rw [merge]
theorem merge_right (f : Nat) (x : Int) (a out : List Int) : (fun O s => merge O (f + 1) s (x :: a) [] out) = fun _ s => (s, some (out ++ (x :: a))) := by funext O s; rw [merge]; simp
theorem merge_bind (f : Nat) (x y : Int) (a b out : List Int) : (fun O s => merge O (f + 1) s (x :: a) (y :: b) out) = bindM (askM y x) (fun b0 O s => if b0 = true then merge O f s (x :: a) b (out ++ [y]) else merge O f s a (y :: b) (out ++ [x])) := by
  funext O s
  rw [merge]
  unfold bindM askM
  rcases O s.length y x with _ | b0
  · rfl
  · cases b0 <;> rfl
theorem pass_nil (N : List (List Int)) : (fun O s => pass O s [] N) = fun _ s => (s, some N) := by funext O s; rw [pass]
theorem pass_one (a : List Int) (N : List (List Int)) : (fun O s => pass O s [a] N) = fun _ s => (s, some (N ++ [a])) := by funext O s; rw [pass]
theorem pass_bind (a b : List Int) (R N : List (List Int)) : (fun O s => pass O s (a :: b :: R) N) = bindM (fun O s => merge O (a.length + b.length) s a b []) (fun m O s => pass O s R (N ++ [m])) := by
  funext O s
  rw [pass]
  unfold bindM
  dsimp only
  rcases merge O (a.length + b.length) s a b [] with ⟨s', _ | m⟩ <;> rfl
theorem passes_bind (f : Nat) (R : List (List Int)) (hc : 1 < R.length) : (fun O s => passes O (f + 1) s R) = bindM (fun O s => pass O s R []) (fun N O s => passes O f s N) := by
  funext O s
  rw [passes, if_pos hc]
  unfold bindM
  dsimp only
  rcases pass O s R [] with ⟨s', _ | N⟩ <;> rfl
theorem passes_end (f : Nat) (R : List (List Int)) (hc : ¬ 1 < R.length) : (fun O s => passes O (f + 1) s R) = fun _ s => (s, some R) := by
  funext O s
  rw [passes, if_neg hc]
theorem span_len' (i : Int) : ∀ k, (span i k).length = k
  | 0 => rfl
  | k + 1 => by rw [span, List.length_append, span_len' i k]; rfl

theorem ascend_cut (n : Int) (down : Bool) : ∀ (f : Nat) (i : Int), Cut (fun O s => ascend O n down f s i)
  | 0, i => cut_pure _
  | f + 1, i => by
    by_cases hc : i < n
    · rw [ascend_bind n down f i hc]
      refine cut_bind (cut_ask _ _) (fun b => ?_)
      by_cases hb : b = down
      · simp only [if_pos hb]; exact ascend_cut n down f (i + 1)
      · simp only [if_neg hb]; exact cut_pure _
    · rw [ascend_end n down f i hc]
      exact cut_pure _
theorem place_cut (run : List Int) (i : Int) : ∀ (f : Nat) (lo hi : Nat), Cut (fun O s => place O run i f s lo hi)
  | 0, lo, hi => cut_pure _
  | f + 1, lo, hi => by
    by_cases hc : lo < hi
    · rw [place_bind run i f lo hi hc]
      refine cut_bind (cut_ask _ _) (fun b => ?_)
      by_cases hb : b = true
      · simp only [if_pos hb]; exact place_cut run i f _ _
      · simp only [if_neg hb]; exact place_cut run i f _ _
    · rw [place_end run i f lo hi hc]
      exact cut_pure _
theorem fill_cut (n : Int) : ∀ (f : Nat) (run : List Int) (i : Int), Cut (fun O s => fill O n f s run i)
  | 0, run, i => cut_pure _
  | f + 1, run, i => by
    by_cases hc : i < n ∧ run.length < 6
    · rw [fill_bind n f run i hc]
      exact cut_bind (place_cut run i 10 0 run.length) (fun p => fill_cut n f _ _)
    · rw [fill_end n f run i hc]
      exact cut_pure _
theorem run1_cut (n i : Int) : Cut (fun O s => run1 O n s i) := by
  by_cases hc : i + 1 < n
  · rw [run1_bind n i hc]
    exact cut_bind (cut_ask _ _) (fun down => cut_bind (ascend_cut n down _ _) (fun j => fill_cut n 6 _ _))
  · rw [run1_end n i hc]
    exact cut_pure _
theorem runs_cut (n : Int) : ∀ (f : Nat) (i : Int) (R : List (List Int)), Cut (fun O s => runs O n f s i R)
  | 0, i, R => cut_pure _
  | f + 1, i, R => by
    by_cases hc : i < n
    · rw [runs_bind n f i R hc]
      exact cut_bind (run1_cut n i) (fun p => runs_cut n f _ _)
    · rw [runs_end n f i R hc]
      exact cut_pure _
theorem merge_cut : ∀ (f : Nat) (a b out : List Int), Cut (fun O s => merge O f s a b out)
  | 0, a, b, out => cut_pure _
  | f + 1, [], b, out => by rw [merge_left]; exact cut_pure _
  | f + 1, x :: a, [], out => by rw [merge_right]; exact cut_pure _
  | f + 1, x :: a, y :: b, out => by
    rw [merge_bind]
    refine cut_bind (cut_ask _ _) (fun b0 => ?_)
    by_cases hb : b0 = true
    · simp only [if_pos hb]; exact merge_cut f _ _ _
    · simp only [if_neg hb]; exact merge_cut f _ _ _
theorem pass_cut : ∀ (f : Nat) (R N : List (List Int)), R.length ≤ f → Cut (fun O s => pass O s R N)
  | _, [], N, _ => by rw [pass_nil]; exact cut_pure _
  | _, [a], N, _ => by rw [pass_one]; exact cut_pure _
  | 0, a :: b :: R, N, h => by simp at h
  | f + 1, a :: b :: R, N, h => by
    rw [pass_bind]
    exact cut_bind (merge_cut _ _ _ _) (fun m => pass_cut f R _ (by simp at h; omega))
theorem passes_cut : ∀ (f : Nat) (R : List (List Int)), Cut (fun O s => passes O f s R)
  | 0, R => cut_pure _
  | f + 1, R => by
    by_cases hc : 1 < R.length
    · rw [passes_bind f R hc]
      exact cut_bind (pass_cut R.length R [] (Nat.le_refl _)) (fun N => passes_cut f N)
    · rw [passes_end f R hc]
      exact cut_pure _
theorem sort_bind (O : Oracle) (n : Int) : sort O n = bindM (fun O s => runs O n n.toNat s 0 []) (fun R => bindM (fun O s => passes O R.length s R) (fun R' _ s => (s, some (R'.getD 0 [])))) O [] := by
  unfold sort bindM
  dsimp only
  rcases runs O n n.toNat [] 0 [] with ⟨s, _ | R⟩
  · rfl
  · dsimp only
    rcases passes O R.length s R with ⟨s', _ | R'⟩ <;> rfl

/-- Told the answers of O as far as they go, a sort asks the same; told all of them, it comes to the same order. -/
theorem sort_cut {O : Oracle} {n : Int} {Q : Asked} {r : Option (List Int)} (h : sort O n = (Q, r)) (T : List Bool) (hT : ∀ k p, k < T.length → Q[k]? = some p → T[k]? = O k p.1 p.2) :
    (Q.length ≤ T.length → sort (fun k _ _ => T[k]?) n = (Q, r)) ∧ (T.length < Q.length → sort (fun k _ _ => T[k]?) n = (Q.take (T.length + 1), none)) := by
  rw [sort_bind] at h
  have hc := cut_bind (runs_cut n n.toNat 0 []) (fun R => cut_bind (passes_cut R.length R) (fun R' => cut_pure (some (R'.getD 0 []))))
  have := hc O (fun k _ _ => T[k]?) T.length [] Q r h (by simp) (fun k a b hk => List.getElem?_eq_none hk) hT
  rw [sort_bind]
  exact this.2

/-- It asks at most b questions more, and what comes of it is P. -/
def Few {α : Type} (F : Ask α) (b : Nat) (P : α → Prop) : Prop := ∀ (O : Oracle) (s s' : Asked) (r : Option α), F O s = (s', r) → s'.length ≤ s.length + b ∧ ∀ x, r = some x → P x
theorem few_pure {α : Type} (x : α) (b : Nat) {P : α → Prop} (h : P x) : Few (fun _ s => (s, some x)) b P := by
  intro O s s' r e
  injection e with e1 e2
  subst e1 e2
  exact ⟨by omega, fun y hy => by injection hy with hy; rw [← hy]; exact h⟩
theorem few_ask (a b : Int) : Few (askM a b) 1 (fun _ => True) := by
  intro O s s' r e
  unfold askM at e
  injection e with e1 e2
  subst e1
  exact ⟨by rw [List.length_append]; exact Nat.le_refl _, fun _ _ => trivial⟩
theorem few_bind {α β : Type} {F : Ask α} {G : α → Ask β} {b1 b2 b : Nat} {P : α → Prop} {Q : β → Prop} (hF : Few F b1 P) (hG : ∀ x, P x → Few (G x) b2 Q) (hb : b1 + b2 ≤ b) : Few (bindM F G) b Q := by
  intro O s s' r h
  unfold bindM at h
  rcases hq : F O s with ⟨s1, r1⟩
  rw [hq] at h
  obtain ⟨h1, h2⟩ := hF O s s1 r1 hq
  cases r1 with
  | none =>
    injection h with e1 e2
    subst e1 e2
    exact ⟨by omega, fun x hx => by cases hx⟩
  | some x =>
    obtain ⟨h3, h4⟩ := hG x (h2 x rfl) O s1 s' r h
    exact ⟨by omega, h4⟩

theorem ascend_few (n : Int) (down : Bool) : ∀ (f : Nat) (i : Int), Few (fun O s => ascend O n down f s i) f (fun j => j ≤ i + (f : Int))
  | 0, i => few_pure _ _ (by omega)
  | f + 1, i => by
    by_cases hc : i < n
    · rw [ascend_bind n down f i hc]
      refine few_bind (few_ask _ _) (fun b _ => (?_ : Few _ f _)) (by omega)
      by_cases hb : b = down
      · simp only [if_pos hb]
        intro O s s' r h
        obtain ⟨h1, h2⟩ := ascend_few n down f (i + 1) O s s' r h
        exact ⟨h1, fun x hx => by have := h2 x hx; omega⟩
      · simp only [if_neg hb]; exact few_pure _ _ (by omega)
    · rw [ascend_end n down f i hc]
      exact few_pure _ _ (by omega)
theorem place_few (run : List Int) (i : Int) : ∀ (f : Nat) (lo hi : Nat), Few (fun O s => place O run i f s lo hi) f (fun _ => True)
  | 0, lo, hi => few_pure _ _ trivial
  | f + 1, lo, hi => by
    by_cases hc : lo < hi
    · rw [place_bind run i f lo hi hc]
      refine few_bind (few_ask _ _) (fun b _ => (?_ : Few _ f _)) (by omega)
      by_cases hb : b = true
      · simp only [if_pos hb]; exact place_few run i f _ _
      · simp only [if_neg hb]; exact place_few run i f _ _
    · rw [place_end run i f lo hi hc]
      exact few_pure _ _ trivial
theorem fill_few (n : Int) : ∀ (f : Nat) (run : List Int) (i : Int), Few (fun O s => fill O n f s run i) (f * 10) (fun p => p.1.length ≤ run.length + f)
  | 0, run, i => few_pure _ _ (by show run.length ≤ _; omega)
  | f + 1, run, i => by
    by_cases hc : i < n ∧ run.length < 6
    · rw [fill_bind n f run i hc]
      refine few_bind (b2 := f * 10) (place_few run i 10 0 run.length) (fun p _ => ?_) (by omega)
      intro O s s' r h
      obtain ⟨h1, h2⟩ := fill_few n f _ _ O s s' r h
      refine ⟨h1, fun x hx => ?_⟩
      have := h2 x hx
      rw [List.length_append, List.length_cons, List.length_take, List.length_drop] at this
      omega
    · rw [fill_end n f run i hc]
      exact few_pure _ _ (by show run.length ≤ _; omega)
theorem run1_few (n i : Int) : Few (fun O s => run1 O n s i) (n.toNat + 61) (fun p => p.1.length ≤ n.toNat + 8) := by
  by_cases hc : i + 1 < n
  · rw [run1_bind n i hc]
    refine few_bind (b2 := n.toNat + 60) (few_ask _ _) (fun down _ => few_bind (b2 := 60) (ascend_few n down _ _) (fun j hj => ?_) (by omega)) (by omega)
    intro O s s' r h
    obtain ⟨h1, h2⟩ := fill_few n 6 _ _ O s s' r h
    refine ⟨h1, fun x hx => ?_⟩
    have h3 := h2 x hx
    have h4 : (if down = true then (span i (j - i).toNat).reverse else span i (j - i).toNat).length = (j - i).toNat := by
      cases down with
      | true => rw [if_pos rfl, List.length_reverse, span_len']
      | false => rw [if_neg (by simp), span_len']
    omega
  · rw [run1_end n i hc]
    exact few_pure _ _ (by show 1 ≤ _; omega)
theorem runs_few (n : Int) (B : Nat) (hB : n.toNat + 61 ≤ B) : ∀ (f : Nat) (i : Int) (R : List (List Int)), Few (fun O s => runs O n f s i R) (f * B) (fun R' => R'.length ≤ R.length + f ∧ R'.flatten.length ≤ R.flatten.length + f * B)
  | 0, i, R => few_pure _ _ ⟨by omega, by omega⟩
  | f + 1, i, R => by
    by_cases hc : i < n
    · rw [runs_bind n f i R hc]
      refine few_bind (b2 := f * B) (run1_few n i) (fun p hp => ?_) (by rw [Nat.add_mul]; omega)
      intro O s s' r h
      obtain ⟨h1, h2⟩ := runs_few n B hB f _ _ O s s' r h
      refine ⟨h1, fun x hx => ?_⟩
      obtain ⟨h3, h4⟩ := h2 x hx
      rw [List.flatten_append, List.length_append, List.flatten_cons, List.flatten_nil, List.append_nil] at h4
      rw [List.length_append, List.length_singleton] at h3
      rw [Nat.add_mul]
      have hp2 : p.1.length ≤ n.toNat + 8 := hp
      omega
    · rw [runs_end n f i R hc]
      refine few_pure _ _ ⟨by omega, by omega⟩
theorem merge_few : ∀ (f : Nat) (a b out : List Int), Few (fun O s => merge O f s a b out) f (fun z => z.length = out.length + a.length + b.length)
  | 0, a, b, out => few_pure _ _ (by rw [List.length_append, List.length_append])
  | f + 1, [], b, out => by rw [merge_left]; exact few_pure _ _ (by simp)
  | f + 1, x :: a, [], out => by rw [merge_right]; exact few_pure _ _ (by simp)
  | f + 1, x :: a, y :: b, out => by
    rw [merge_bind]
    refine few_bind (few_ask _ _) (fun b0 _ => (?_ : Few _ f _)) (by omega)
    by_cases hb : b0 = true
    · simp only [if_pos hb]
      intro O s s' r h
      obtain ⟨h1, h2⟩ := merge_few f _ _ _ O s s' r h
      exact ⟨h1, fun z hz => by have := h2 z hz; simp at this ⊢; omega⟩
    · simp only [if_neg hb]
      intro O s s' r h
      obtain ⟨h1, h2⟩ := merge_few f _ _ _ O s s' r h
      exact ⟨h1, fun z hz => by have := h2 z hz; simp at this ⊢; omega⟩
theorem pass_few : ∀ (f : Nat) (R N : List (List Int)), R.length ≤ f → Few (fun O s => pass O s R N) R.flatten.length (fun N' => N'.flatten.length = N.flatten.length + R.flatten.length)
  | _, [], N, _ => by rw [pass_nil]; exact few_pure _ _ (by simp)
  | _, [a], N, _ => by rw [pass_one]; exact few_pure _ _ (by simp)
  | 0, a :: b :: R, N, h => by simp at h
  | f + 1, a :: b :: R, N, h => by
    rw [pass_bind]
    refine few_bind (b2 := R.flatten.length) (merge_few _ _ _ _) (fun m hm => ?_) (by simp; omega)
    intro O s s' r hh
    obtain ⟨h1, h2⟩ := pass_few f R _ (by simp at h; omega) O s s' r hh
    refine ⟨h1, fun x hx => ?_⟩
    have := h2 x hx
    simp at this hm ⊢
    omega
theorem passes_few (B : Nat) : ∀ (f : Nat) (R : List (List Int)), R.flatten.length ≤ B → Few (fun O s => passes O f s R) (f * B) (fun _ => True)
  | 0, R, _ => few_pure _ _ trivial
  | f + 1, R, hB => by
    by_cases hc : 1 < R.length
    · rw [passes_bind f R hc]
      exact few_bind (b2 := f * B) (pass_few R.length R [] (Nat.le_refl _)) (fun N hN => passes_few B f N (by simp at hN ⊢; simp at hB; omega)) (by rw [Nat.add_mul]; omega)
    · rw [passes_end f R hc]
      exact few_pure _ _ trivial
theorem sort_fewB (O : Oracle) (N B : Nat) (hB : N + 61 ≤ B) : (sort O (N : Int)).1.length ≤ N * B + N * (N * B) := by
  rw [sort_bind, Int.toNat_natCast]
  generalize hq : bindM _ _ O [] = X
  obtain ⟨s', r⟩ := X
  have h := few_bind (b := N * B + N * (N * B)) (runs_few (N : Int) B (by omega) N 0 []) (fun R hR => few_bind (G := fun (R' : List (List Int)) (_ : Oracle) (s : Asked) => (s, some (R'.getD 0 []))) (b2 := 0) (b := N * (N * B)) (Q := fun _ => True) (passes_few (N * B) R.length R (by have := hR.2; rw [List.flatten_nil, List.length_nil, Nat.zero_add] at this; exact this)) (fun R' _ => few_pure _ _ trivial) (by
    have h1 := hR.1
    rw [List.length_nil, Nat.zero_add] at h1
    exact Nat.mul_le_mul_right _ h1)) (Nat.le_refl _)
  have := (h O [] s' r hq).1
  rw [List.length_nil, Nat.zero_add] at this
  exact this
/-- Sixty things ask few questions. -/
theorem sort_few (O : Oracle) (N : Nat) (hN : N ≤ 60) : (sort O (N : Int)).1.length ≤ 1000000 := by
  refine Nat.le_trans (sort_fewB O N 121 (by omega)) ?_
  have h1 : N * 121 ≤ 7260 := by omega
  have h2 : N * (N * 121) ≤ 60 * 7260 := Nat.mul_le_mul hN h1
  omega

end Go.Proofs.Ytdibbgldclgokaa.SortM
