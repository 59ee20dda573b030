/- What ysort of the program comes to, whatever function it asks. No condition beyond those of the theorems. -/
import Derived.Test.YtdibbgldclgokaaGSortP
import Derived.WalkSmall
import Derived.Laws.CopyOwn
namespace Go.Proofs.Ytdibbgldclgokaa.PS
open Go.RowKit Go.Proofs.YtdibbgldclgokaaW.PrintWords Go.Proofs.YtdibbgldclgokaaW.PrintLast Go.Proofs.YtdibbgldclgokaaW.PrintMore Go.Proofs.Ytdibbgldclgokaa.SortM
set_option linter.unusedVariables false
set_option linter.unusedSimpArgs false

theorem span_length (i : Int) : ∀ k, (span i k).length = k
  | 0 => rfl
  | k + 1 => by rw [span, List.length_append, span_length i k]; rfl

/-- The last thing of a run that still goes up or down. -/
theorem span_form {w : World} {base k : Nat} {v : Value} {i : Int} (h : Ow w base v (span i (k + 1))) :
    ∃ g c, v = .slice (some ⟨g, 0, none⟩) (k + 1) c ∧ w.cell? ⟨g, k, none⟩ = some (.int .i64 (i + (k : Int))) := by
  have h1 : w.ownsRow base 2 1 v (k + 1) ((span i (k + 1)).map (Value.int .i64)) := by
    have h2 := h
    unfold Ow at h2
    rw [span_length] at h2
    exact h2
  obtain ⟨g, cap, rfl, hb, hl⟩ := h1.form (by omega)
  refine ⟨g, cap, rfl, ?_⟩
  rw [h1.cellAt k (by omega), span, List.map_append, List.getElem?_append_right (by rw [List.length_map, span_length]; exact Nat.le_refl _), List.length_map, span_length, Nat.sub_self]
  rfl

theorem one_own (w : World) (x : Int) {b0 : Nat} (hb : b0 ≤ w.heap.size) : Ow (w.alloc (.cells #[.int .i64 x] 2)) b0 (.slice (some ⟨w.heap.size, 0, none⟩) 1 1) (span x (0 + 1)) := by
  have h := World.ownsRow_lit (base := b0) (e := 2) (size := 1) w #[.int .i64 x] 1 hb (by decide) rfl
  have e : span x (0 + 1) = [x] := by simp [span]
  unfold Ow
  rw [e]
  exact h

/-- The first part of a run, all of it: with its first question. -/
def firstPart (O : Oracle) (n : Int) (s : Asked) (i : Int) : Asked × Option (Int × Bool) :=
  if i + 1 < n then (match O s.length (i + 1) i with
    | none => (s ++ [(i + 1, i)], none)
    | some down => (match ascend O n down n.toNat (s ++ [(i + 1, i)]) (i + 2) with
      | (s', none) => (s', none)
      | (s', some j) => (s', some (j, down))))
  else (s, some (i + 1, false))
/-- The same, from a later thing on. -/
def laterPart (O : Oracle) (n : Int) (down : Bool) (f : Nat) (s : Asked) (i : Int) : Asked × Option (Int × Bool) :=
  match ascend O n down f s i with
  | (s', none) => (s', none)
  | (s', some j) => (s', some (j, down))

/-- Behind an append of one number to the run: the rows that were made are as they were. -/
theorem own_push {O : Oracle} {K : FuncId} {caps : Array Value} {n : Int} {I : Asked → (Nat → Prop) → World → Prop} {C0 C : Nat → Prop} {w0 w : World} {s : Asked} {v u : Value} {zs : List Int} {R : List (List Int)} {x : Int} (hA : Asker O K caps n w0.heap.size I)
    (hO : Ow w w0.heap.size v zs) (hF : Off C v) (hS : St I C0 w0 s C w) (hU : Kd.R (Kd.slice 2 (Kd.int .i64)) 24 w w0.heap.size (fun k => ¬ C k ∧ some k ≠ v.ownBlock) u R) (v' : Value) (w5 : World)
    (hown : w5.ownsRow w0.heap.size 2 1 v' (zs.length + 1) (zs.map (Value.int .i64) ++ [.int .i64 x])) (hgrow : (w.alloc (.cells #[.int .i64 x] 2)).grownBy w5 v.ownBlock) (hat : v'.ownBlock = v.ownBlock ∨ v'.ownBlock = some (w.alloc (.cells #[.int .i64 x] 2)).heap.size) :
    Ow w5 w0.heap.size v' (zs ++ [x]) ∧ Off C v' ∧ St I C0 w0 s C w5 ∧ Kd.R (Kd.slice 2 (Kd.int .i64)) 24 w5 w0.heap.size (fun k => ¬ C k ∧ some k ≠ v'.ownBlock) u R := by
  have hg := (World.grownBy_alloc w (.cells #[.int .i64 x] 2) v.ownBlock).trans hgrow
  have hsz : (w.alloc (.cells #[.int .i64 x] 2)).heap.size = w.heap.size + 1 := by simp
  rw [hsz] at hat
  refine ⟨by show w5.ownsRow _ _ _ _ _ _; simpa using hown, fun k hk => ?_, hS.grown hA hg (fun k hk => ⟨hF k hk, (hO.lt k hk).1⟩), ?_⟩
  · rcases hat with h | h
    · exact hF k (by rw [← h]; exact hk)
    · rw [h] at hk
      injection hk with hk
      exact hS.new (by omega)
  · refine Kd.R_mono (Kd.R_step (Kd.R_bound hU) (w1 := w5) (fun k hk hlt => hg.block k hlt hk.1.2)) (fun k hk => ⟨hk.1.1, fun e => ?_⟩)
    rcases hat with h | h
    · exact hk.1.2 (by rw [← h]; exact e)
    · rw [h] at e
      injection e with e
      have := hk.2.2.1
      omega

theorem first_on {O : Oracle} {N i k : Nat} {down b : Bool} {s s' : Asked} (h : (k = 0 ∧ down = false ∧ s' = s) ∨ (1 ≤ k ∧ laterPart O (N : Int) down (N + 1 - k) s' ((i : Int) + ((k : Int) + 1)) = firstPart O (N : Int) s (i : Int)))
    (hr : O s'.length ((i : Int) + ((k : Int) + 1)) ((i : Int) + (k : Int)) = some b) (hlt : i + (k + 1) < N) (hb : k = 0 ∨ b = down) :
    laterPart O (N : Int) b (N + 1 - (k + 1)) (s' ++ [((i : Int) + ((k : Int) + 1), (i : Int) + (k : Int))]) ((i : Int) + (((k + 1 : Nat) : Int) + 1)) = firstPart O (N : Int) s (i : Int) := by
  have e3 : (i : Int) + (((k + 1 : Nat) : Int) + 1) = (i : Int) + ((k : Int) + 1) + 1 := by omega
  rw [e3]
  rcases h with ⟨rfl, rfl, rfl⟩ | ⟨hk, e⟩
  · unfold firstPart
    have e1 : (i : Int) + ((0 : Nat) + 1 : Int) = (i : Int) + 1 := by omega
    have e2 : (i : Int) + ((0 : Nat) : Int) = (i : Int) := by omega
    have e4 : (i : Int) + 1 + 1 = (i : Int) + 2 := by omega
    rw [e1, e2] at hr ⊢
    rw [if_pos (by omega), hr, e4, Int.toNat_natCast]
    rfl
  · rw [← e]
    have hbd : b = down := hb.resolve_left (by omega)
    subst hbd
    unfold laterPart
    obtain ⟨f, hf⟩ : ∃ f, N + 1 - k = f + 1 := ⟨N - k, by omega⟩
    have e1 : (i : Int) + ((k : Int) + 1) - 1 = (i : Int) + (k : Int) := by omega
    rw [hf, show N + 1 - (k + 1) = f by omega]
    conv => rhs; rw [ascend, if_pos (by omega), e1, hr]
    simp
theorem first_break {O : Oracle} {N i k : Nat} {down b : Bool} {s s' : Asked} (h : (k = 0 ∧ down = false ∧ s' = s) ∨ (1 ≤ k ∧ laterPart O (N : Int) down (N + 1 - k) s' ((i : Int) + ((k : Int) + 1)) = firstPart O (N : Int) s (i : Int)))
    (hr : O s'.length ((i : Int) + ((k : Int) + 1)) ((i : Int) + (k : Int)) = some b) (hlt : i + (k + 1) < N) (hb : ¬ (k = 0 ∨ b = down)) :
    firstPart O (N : Int) s (i : Int) = (s' ++ [((i : Int) + ((k : Int) + 1), (i : Int) + (k : Int))], some ((i : Int) + ((k : Int) + 1), down)) := by
  rcases h with ⟨rfl, rfl, rfl⟩ | ⟨hk, e⟩
  · exact absurd (.inl rfl) hb
  · rw [← e]
    unfold laterPart
    obtain ⟨f, hf⟩ : ∃ f, N + 1 - k = f + 1 := ⟨N - k, by omega⟩
    have e1 : (i : Int) + ((k : Int) + 1) - 1 = (i : Int) + (k : Int) := by omega
    rw [hf, ascend, if_pos (by omega), e1, hr]
    simp only
    rw [if_neg (fun hh => hb (.inr hh))]

theorem bools_ne : ∀ {b d : Bool}, b ≠ d → (b = true ∧ d = false) ∨ (b = false ∧ d = true) := by decide
/-- A row that is being turned round: m things at each end are turned. -/
def Turn (L l : List Int) (m : Nat) : Prop := l.length = L.length ∧ ∀ j, j < L.length → l[j]? = if j < m ∨ L.length - m ≤ j then L[L.length - 1 - j]? else L[j]?
theorem turn_zero (L : List Int) : Turn L L 0 := ⟨rfl, fun j hj => by rw [if_neg (by omega)]⟩
theorem turn_end {L l : List Int} {m : Nat} (h : Turn L l m) (hm : L.length ≤ 2 * m + 1) : l = L.reverse := by
  apply List.ext_getElem?
  intro j
  by_cases hj : j < L.length
  · rw [h.2 j hj, List.getElem?_reverse hj]
    by_cases hc : j < m ∨ L.length - m ≤ j
    · rw [if_pos hc]
    · rw [if_neg hc]
      congr 1
      omega
  · rw [List.getElem?_eq_none (by rw [h.1]; omega), List.getElem?_eq_none (by rw [List.length_reverse]; omega)]
theorem turn_step {L l : List Int} {m : Nat} (h : Turn L l m) (hm : 2 * m + 1 < L.length) (x y : Int) (hx : l[m]? = some x) (hy : l[L.length - 1 - m]? = some y) : Turn L ((l.set m y).set (L.length - 1 - m) x) (m + 1) := by
  refine ⟨by rw [List.length_set, List.length_set]; exact h.1, fun j hj => ?_⟩
  have hl := h.1
  have h1 := h.2 m (by omega)
  have h2 := h.2 (L.length - 1 - m) (by omega)
  rw [if_neg (by omega), hx] at h1
  rw [if_neg (by omega), hy] at h2
  rw [List.getElem?_set, List.getElem?_set, List.length_set]
  by_cases e1 : L.length - 1 - m = j
  · rw [if_pos e1, if_pos (by omega), if_pos (by omega), show L.length - 1 - j = m by omega, ← h1]
  · rw [if_neg e1]
    by_cases e2 : m = j
    · rw [if_pos e2, if_pos (by omega), if_pos (by omega), ← e2, ← h2]
    · rw [if_neg e2, h.2 j hj]
      by_cases hc : j < m ∨ L.length - m ≤ j
      · rw [if_pos hc, if_pos (by omega)]
      · rw [if_neg hc, if_neg (by omega)]
/-- Behind the change of two places of the run. -/
theorem swap_step {O : Oracle} {K : FuncId} {caps : Array Value} {n : Int} {I : Asked → (Nat → Prop) → World → Prop} {C0 C : Nat → Prop} {w0 w : World} {s : Asked} {u : Value} {l : List Int} {R : List (List Int)} {g k c : Nat} (hA : Asker O K caps n w0.heap.size I)
    (hO : w.ownsRow w0.heap.size 2 1 (.slice (some ⟨g, 0, none⟩) (k + 1) c) (k + 1) (l.map (Value.int .i64))) (hg : ¬ C g) (hS : St I C0 w0 s C w)
    (hU : Kd.R (Kd.slice 2 (Kd.int .i64)) 24 w w0.heap.size (fun k_ => ¬ C k_ ∧ some k_ ≠ (Value.slice (some ⟨g, 0, none⟩) (k + 1) c).ownBlock) u R) (m mm : Nat) (x y : Int) :
    (((w.setCell ⟨g, m, none⟩ (Value.int .i64 y)).setCell ⟨g, mm, none⟩ (Value.int .i64 x)).drew).ownsRow w0.heap.size 2 1 (.slice (some ⟨g, 0, none⟩) (k + 1) c) (k + 1) (((l.set m y).set mm x).map (Value.int .i64)) ∧
    St I C0 w0 s C (((w.setCell ⟨g, m, none⟩ (Value.int .i64 y)).setCell ⟨g, mm, none⟩ (Value.int .i64 x)).drew) ∧
    Kd.R (Kd.slice 2 (Kd.int .i64)) 24 (((w.setCell ⟨g, m, none⟩ (Value.int .i64 y)).setCell ⟨g, mm, none⟩ (Value.int .i64 x)).drew) w0.heap.size (fun k_ => ¬ C k_ ∧ some k_ ≠ (Value.slice (some ⟨g, 0, none⟩) (k + 1) c).ownBlock) u R := by
  have h1 := hO.stored m (.int .i64 y)
  have h2 := h1.1.stored mm (.int .i64 x)
  rw [← List.map_set, ← List.map_set] at h2
  have hgr := h1.2.trans h2.2
  have hb := (hO.lt g rfl).1
  refine ⟨h2.1.drew, (hS.grown hA hgr (fun q hq => by injection hq with hq; subst hq; exact ⟨hg, hb⟩)).drewN hA 1, ?_⟩
  refine Kd.R_step hU (fun q hq hlt => ?_)
  have hne : some q ≠ some g := hq.2
  exact hgr.block q hlt hne
theorem ow_shape {w : World} {base : Nat} {v : Value} {zs : List Int} (h : Ow w base v zs) : ∃ a c n, v = .slice a n c := by
  rcases h.2 with ⟨rfl, h0⟩ | ⟨g, cap, cur, rfl, _⟩
  · exact ⟨none, 0, 0, rfl⟩
  · exact ⟨_, _, _, rfl⟩
theorem own_form {w : World} {base : Nat} {v : Value} {zs : List Int} (h : Ow w base v zs) (hp : 1 ≤ zs.length) : ∃ g c n, zs.length = n ∧ v = .slice (some ⟨g, 0, none⟩) n c := by
  obtain ⟨g, cap, e, _⟩ := h.form (by omega)
  exact ⟨g, cap, zs.length, rfl, e⟩
theorem fill_stop {O : Oracle} {n j : Int} {f : Nat} {s : Asked} {L : List Int} (h : ¬ (j < n ∧ L.length < 6)) : fill O n f s L j = (s, some (L, j)) := by
  cases f with
  | zero => rfl
  | succ f => rw [fill, if_neg h]
theorem place_stop {O : Oracle} {L : List Int} {j : Int} {f : Nat} {s : Asked} {lo hi : Nat} (h : ¬ lo < hi) : place O L j f s lo hi = (s, some lo) := by
  cases f with
  | zero => rfl
  | succ f => rw [place, if_neg h]
theorem span_mem {i : Int} : ∀ {k : Nat} {x : Int}, x ∈ span i k → i ≤ x ∧ x < i + (k : Int)
  | 0, x, h => by cases h
  | k + 1, x, h => by
    rw [span] at h
    rcases List.mem_append.1 h with h | h
    · have := span_mem h
      omega
    · rw [List.mem_singleton.1 h]
      omega
theorem place_on {O : Oracle} {L : List Int} {j : Int} {f lo hi mid : Nat} {s : Asked} (hlt : lo < hi) (hf : hi ≤ lo + f) (hm : (lo + hi) / 2 = mid) (b : Bool) (hr : O s.length j (L.getD mid 0) = some b) :
    place O L j f s lo hi = if b = true then place O L j (f - 1) (s ++ [(j, L.getD mid 0)]) lo mid else place O L j (f - 1) (s ++ [(j, L.getD mid 0)]) (mid + 1) hi := by
  obtain ⟨f, rfl⟩ : ∃ q, f = q + 1 := ⟨f - 1, by omega⟩
  rw [place, if_pos hlt, hm, hr]
  cases b <;> rfl
theorem place_none {O : Oracle} {L : List Int} {j : Int} {f lo hi mid : Nat} {s : Asked} (hlt : lo < hi) (hf : hi ≤ lo + f) (hm : (lo + hi) / 2 = mid) (hr : O s.length j (L.getD mid 0) = none) :
    place O L j f s lo hi = (s ++ [(j, L.getD mid 0)], none) := by
  obtain ⟨f, rfl⟩ : ∃ q, f = q + 1 := ⟨f - 1, by omega⟩
  rw [place, if_pos hlt, hm, hr]
theorem fill_none {O : Oracle} {n j : Int} {f : Nat} {s s' : Asked} {L : List Int} (hj : j < n) (hl : L.length < 6) (h : place O L j 10 s 0 L.length = (s', none)) : fill O n (f + 1) s L j = (s', none) := by
  rw [fill, if_pos ⟨hj, hl⟩, h]
theorem fill_on {O : Oracle} {n j : Int} {f p : Nat} {s s' : Asked} {L : List Int} (hj : j < n) (hl : L.length < 6) (h : place O L j 10 s 0 L.length = (s', some p)) : fill O n (f + 1) s L j = fill O n f s' (L.take p ++ j :: L.drop p) (j + 1) := by
  rw [fill, if_pos ⟨hj, hl⟩, h]
/-- Where a run has no end the whole sort has none. -/
theorem sort_none_run {O : Oracle} {N i kq : Nat} {s s' : Asked} {R : List (List Int)} (hi : i < N) (hM : runs O (N : Int) (kq + 1) s (i : Int) R = runs O (N : Int) N [] 0 []) (h : run1 O (N : Int) s (i : Int) = (s', none)) : sort O (N : Int) = (s', none) := by
  have h2 : runs O (N : Int) N [] 0 [] = (s', none) := by
    rw [← hM, runs, if_pos (by omega), h]
  unfold sort
  rw [Int.toNat_natCast, h2]
theorem info24' : (Try.prog.info? 24).map (fun i => (i.zero, i.size, i.bytes)) = some (some (.slice none 0 0), 1, 24) := by kernel_rfl
theorem keep_run {C : Nat → Prop} {w : World} {b0 : Nat} {v : Value} {L : List Int} (h : Ow w b0 v L) (hf : Off C v) : (Kd.slice 2 (Kd.int .i64)).M w b0 (fun k => ¬ C k ∧ v.ownBlock = some k) L [v] :=
  ⟨v, rfl, Kd.R_of_own h (fun k hk => ⟨hf k hk, hk⟩)⟩
theorem ow_down {w : World} {base b1 : Nat} {v : Value} {zs : List Int} (h : Ow w base v zs) (hb : b1 ≤ base) : Ow w b1 v zs := by
  obtain ⟨h5, h6⟩ := h
  refine ⟨h5, ?_⟩
  rcases h6 with h6 | ⟨g, cap, cur, rfl, a2, a3, a4⟩
  · exact .inl h6
  · exact .inr ⟨g, cap, cur, rfl, Nat.le_trans hb a2, a3, a4⟩
/-- What is left of a row behind a place. -/
theorem rest_news {w : World} {base h0 : Nat} {C : Nat → Prop} {g n c pa ma : Nat} {L : List Int} {ad : Addr} (h : RowAt w base h0 C g n c L) (hp : pa + ma = n) (hd : 0 < ma → ad = ⟨g, pa, none⟩) :
    ((L.drop pa).map (Value.int .i64)).length = ma * 1 ∧ (∀ j u, ((L.drop pa).map (Value.int .i64))[j]? = some u → w.cell? (ad.add j) = some u) ∧ ∀ u ∈ (L.drop pa).map (Value.int .i64), u.oneCell' = true := by
  have hlen : (L.drop pa).length = ma := by rw [List.length_drop, h.len]; omega
  refine ⟨by rw [List.length_map, hlen, Nat.mul_one], fun j u hj => ?_, fun u hu => ?_⟩
  · rw [List.getElem?_map, List.getElem?_drop] at hj
    cases hx : L[pa + j]? with
    | none => rw [hx] at hj; cases hj
    | some x =>
      rw [hx] at hj
      have hj := Option.some.inj hj
      have hlt := (List.getElem?_eq_some_iff.1 hx).1
      rw [hd (by rw [h.len] at hlt; omega), ← hj]
      have e : (⟨g, pa, none⟩ : Addr).add j = ⟨g, pa + j, none⟩ := by
        unfold Addr.add
        split
        · subst_vars; rfl
        · rfl
      rw [e]
      exact h.cell hx
  · obtain ⟨x, _, rfl⟩ := List.mem_map.1 hu
    rfl
theorem run1_of {O : Oracle} {N i k : Nat} {down : Bool} {s s' : Asked} {X : Asked × Option (List Int × Int)} (h : firstPart O (N : Int) s (i : Int) = (s', some ((i : Int) + ((k : Int) + 1), down)))
    (hf : fill O (N : Int) 6 s' (if down = true then (span (i : Int) (k + 1)).reverse else span (i : Int) (k + 1)) ((i : Int) + ((k : Int) + 1)) = X) : run1 O (N : Int) s (i : Int) = X := by
  unfold firstPart at h
  unfold run1
  have e1 : ((i : Int) + ((k : Int) + 1) - (i : Int)).toNat = k + 1 := by omega
  by_cases hc : (i : Int) + 1 < (N : Int)
  · rw [if_pos hc] at h ⊢
    cases hq : O s.length ((i : Int) + 1) (i : Int) with
    | none => rw [hq] at h; simp at h
    | some d =>
      rw [hq] at h
      simp only at h ⊢
      cases hu : ascend O (N : Int) d (N : Int).toNat (s ++ [((i : Int) + 1, (i : Int))]) ((i : Int) + 2) with
      | mk s1 o =>
        rw [hu] at h
        cases o with
        | none => simp at h
        | some j =>
          simp only [Prod.mk.injEq, Option.some.injEq] at h
          obtain ⟨rfl, rfl, rfl⟩ := h
          simp only
          rw [e1]
          exact hf
  · rw [if_neg hc] at h ⊢
    simp only [Prod.mk.injEq, Option.some.injEq] at h
    obtain ⟨rfl, h2, rfl⟩ := h
    have hk : k = 0 := by omega
    subst hk
    rw [← hf, fill, if_neg (by omega)]
    simp [span]
theorem runs_stop (O : Oracle) (i f : Nat) (s : Asked) (R : List (List Int)) : runs O (i : Int) f s (i : Int) R = (s, some R) := by
  cases f with
  | zero => rfl
  | succ f => rw [runs, if_neg (by omega)]
theorem first_none {O : Oracle} {N i k : Nat} {down : Bool} {s s' : Asked} (h : (k = 0 ∧ down = false ∧ s' = s) ∨ (1 ≤ k ∧ laterPart O (N : Int) down (N + 1 - k) s' ((i : Int) + ((k : Int) + 1)) = firstPart O (N : Int) s (i : Int)))
    (hr : O s'.length ((i : Int) + ((k : Int) + 1)) ((i : Int) + (k : Int)) = none) (hlt : i + (k + 1) < N) : firstPart O (N : Int) s (i : Int) = (s' ++ [((i : Int) + ((k : Int) + 1), (i : Int) + (k : Int))], none) := by
  rcases h with ⟨rfl, rfl, rfl⟩ | ⟨hk, e⟩
  · unfold firstPart
    have e1 : (i : Int) + ((0 : Nat) + 1 : Int) = (i : Int) + 1 := by omega
    have e2 : (i : Int) + ((0 : Nat) : Int) = (i : Int) := by omega
    rw [e1, e2] at hr ⊢
    rw [if_pos (by omega), hr]
  · rw [← e]
    unfold laterPart
    obtain ⟨f, hf⟩ : ∃ f, N + 1 - k = f + 1 := ⟨N - k, by omega⟩
    have e1 : (i : Int) + ((k : Int) + 1) - 1 = (i : Int) + (k : Int) := by omega
    rw [hf, ascend, if_pos (by omega), e1, hr]
theorem first_stop {O : Oracle} {N i k : Nat} {down : Bool} {s s' : Asked} (h : (k = 0 ∧ down = false ∧ s' = s) ∨ (1 ≤ k ∧ laterPart O (N : Int) down (N + 1 - k) s' ((i : Int) + ((k : Int) + 1)) = firstPart O (N : Int) s (i : Int)))
    (hlt : ¬ i + (k + 1) < N) (hk : i + k < N) : firstPart O (N : Int) s (i : Int) = (s', some ((i : Int) + ((k : Int) + 1), down)) := by
  rcases h with ⟨rfl, rfl, rfl⟩ | ⟨hk1, e⟩
  · unfold firstPart
    rw [if_neg (by omega)]
    rfl
  · rw [← e]
    unfold laterPart
    obtain ⟨f, hf⟩ : ∃ f, N + 1 - k = f + 1 := ⟨N - k, by omega⟩
    rw [hf, ascend, if_neg (by omega)]
/-- Where the first part has no answer the whole sort has none. -/
theorem sort_none_runs {O : Oracle} {N i kq : Nat} {s s' : Asked} {R : List (List Int)} (hi : i < N) (hM : runs O (N : Int) (kq + 1) s (i : Int) R = runs O (N : Int) N [] 0 []) (h : firstPart O (N : Int) s (i : Int) = (s', none)) : sort O (N : Int) = (s', none) := by
  have h1 : run1 O (N : Int) s (i : Int) = (s', none) := by
    unfold firstPart at h
    unfold run1
    by_cases hc : (i : Int) + 1 < (N : Int)
    · rw [if_pos hc] at h ⊢
      cases hq : O s.length ((i : Int) + 1) (i : Int) with
      | none =>
        rw [hq] at h
        exact (by simpa using h)
      | some d =>
        rw [hq] at h
        simp only at h ⊢
        cases hu : ascend O (N : Int) d (N : Int).toNat (s ++ [((i : Int) + 1, (i : Int))]) ((i : Int) + 2) with
        | mk s1 o =>
          rw [hu] at h
          cases o with
          | none => simpa using h
          | some j => simp at h
    · rw [if_neg hc] at h
      simp at h
  have h2 : runs O (N : Int) N [] 0 [] = (s', none) := by
    rw [← hM, runs, if_pos (by omega), h1]
  unfold sort
  rw [Int.toNat_natCast, h2]

theorem info2' : (Try.prog.info? 2).map (fun i => (i.zero, i.size, i.bytes)) = some (some (.int .i64 0), 1, 8) := by kernel_rfl

/-- One step of a region: the row's end, from place p on, goes one place on. -/
theorem step_shift {ops : Array Oper} {o : Oper} {a : Act} {w : World} {K : Act → World → Prop} {Q : Exit → Act → World → Prop} {E : Prop} (hgd : o.guard = none) (d s : Operand) (T : TypeId)
    (ho : o.op = .call { callee := .builtin .copy, args := #[d, s], argTypes := #[T, T] }) (elem : TypeId) (hu : Try.prog.underlying T = some (.slice elem)) (hsz : (Try.prog.info? elem).map (·.size) = some 1)
    {base e g n c p : Nat} {xs : List Value} (hown : w.ownsRow base e 1 (.slice (some ⟨g, 0, none⟩) n c) n xs) (hp : p < n) (h1 : ∀ v ∈ xs, v.oneCell' = true)
    (dp : Option Addr) (dLen dCap sLen sCap : Nat) (hd : a.eval d = .slice dp dLen dCap) (hs : a.eval s = .slice (some ⟨g, p, none⟩) sLen sCap) (hdl : dLen = n - (p + 1)) (hsl : sLen = n - p) (hdp : p + 1 < n → dp = some ⟨g, p + 1, none⟩)
    (h : ∀ w', w'.ownsRow base e 1 (.slice (some ⟨g, 0, none⟩) n c) n (xs.take (p + 1) ++ (xs.drop p).take (n - (p + 1))) → w.grownBy w' (some g) → K (a.put o.dst (goInt ((n - (p + 1) : Nat) : Int))) w') :
    if Region.wanted o (yielded ops a.tmps) = true then Oper.wp Try.prog o a w K Q else E := by
  have hw : Region.wanted o (yielded ops a.tmps) = true := by simp [Region.wanted, hgd]
  rw [if_pos hw]
  subst hdl hsl
  have hxl : xs.length = n := by simpa using hown.1
  by_cases h0 : p + 1 < n
  · obtain rfl := hdp h0
    rcases hown.2 with ⟨h', _⟩ | ⟨g', cap', cur, h', hb, hg, hnc, hcm, hcs, htake⟩
    · simp at h'
    · simp only [Value.slice.injEq, Option.some.injEq, Addr.mk.injEq, and_true, true_and] at h'
      obtain ⟨rfl, rfl⟩ := h'
      rw [Nat.mul_one] at hcs htake
      have hcl : ((xs.drop p).take (n - (p + 1))).length = n - (p + 1) := by rw [List.length_take, List.length_drop]; omega
      have hrun := run_copy_row (P := Try.prog) w T T o.type elem g (p + 1) (n - (p + 1)) dCap ⟨g, p, none⟩ (n - p) sCap cur e ((xs.drop p).take (n - (p + 1))) hu hsz hg (by rw [hcl]; show _ = min _ _; omega)
        (fun j v hj => by
          have hjl := (List.getElem?_eq_some_iff.1 hj).1
          rw [hcl] at hjl
          rw [List.getElem?_take, if_pos hjl, List.getElem?_drop] at hj
          have h2 := hown.cellAt (p + j) (by omega)
          have h3 : (⟨g, p, none⟩ : Addr).add j = ⟨g, p + j, none⟩ := by unfold Addr.add; split <;> simp_all
          rw [h3, h2, hj])
        (by rw [hcl]; omega) (fun v hv => h1 v (List.mem_of_mem_drop (List.mem_of_mem_take hv)))
      unfold Oper.wp
      simp [execOp, ho, resolve, invoke, builtin, hd, hs, hrun, Result.andThen, hcl]
      refine h _ ⟨by rw [List.length_append, hcl, List.length_take]; omega, .inr ⟨g, c, _, rfl, hb, setRow_heap w g _ _ e _ hg, hnc, hcm, ?_, ?_⟩⟩ ⟨rfl, rfl, rfl, by simp, fun k _ hk => setRow_other w g k _ (fun e => hk (by rw [e]))⟩
      · simp
        omega
      · have hcu : cur.toList.length = c := by simpa using hcs
        have ht : cur.toList.take (p + 1) = xs.take (p + 1) := by rw [← htake, List.take_take, Nat.min_eq_left (by omega)]
        rw [ht, Nat.mul_one, ← List.append_assoc]
        show List.take n (_ ++ _ ++ _) = _
        refine List.take_left' ?_
        rw [List.length_append, hcl, List.length_take]
        omega
  · have hn : n - (p + 1) = 0 := by omega
    have hrun := run_copy_none (P := Try.prog) w T T o.type elem dp (some ⟨g, p, none⟩) (n - (p + 1)) dCap (n - p) sCap hu hsz (by rw [hn]; exact Nat.min_eq_right (Nat.zero_le _))
    rw [hn] at h hd hrun
    unfold Oper.wp
    simp [execOp, ho, resolve, invoke, builtin, hd, hs, hrun, Result.andThen]
    refine h w ?_ (World.grownBy.refl _ _)
    have hx : xs.take (p + 1) ++ (xs.drop p).take 0 = xs := by rw [List.take_of_length_le (by omega), List.take_zero, List.append_nil]
    rw [hx]
    exact hown

theorem hown_cap {w : World} {base e g n c : Nat} {xs : List Value} (h : w.ownsRow base e 1 (.slice (some ⟨g, 0, none⟩) n c) n xs) : n ≤ c := by
  rcases h.2 with ⟨h', _⟩ | ⟨g', cap', cur, h', hb, hg, hnc, _⟩
  · simp at h'
  · simp only [Value.slice.injEq, Option.some.injEq, Addr.mk.injEq, and_true, true_and] at h'
    rw [h'.2]; exact hnc
/-- What lies in the row behind the shift and the store. -/
theorem shift_set {α : Type} {L : List α} {n p : Nat} (hn : L.length = n) (hp : p ≤ n) (z x : α) : ((L ++ [z]).take (p + 1) ++ ((L ++ [z]).drop p).take (n + 1 - (p + 1))).set p x = L.take p ++ x :: L.drop p := by
  obtain ⟨A, B, rfl, hA⟩ : ∃ A B, L = A ++ B ∧ A.length = p := ⟨L.take p, L.drop p, (List.take_append_drop p L).symm, by rw [List.length_take]; omega⟩
  subst hA
  have hB : n + 1 - (A.length + 1) = B.length := by rw [← hn, List.length_append]; omega
  rw [hB, List.append_assoc, List.take_length_add_append, List.drop_left, List.take_left, List.take_left, List.drop_left, List.append_assoc, List.set_append_right _ _ (Nat.le_refl _), Nat.sub_self]
  congr 1
  cases B <;> simp
/-- The row of the run, behind the shift and the store: all of it. -/
theorem put_step {O : Oracle} {K : FuncId} {caps : Array Value} {n : Int} {I : Asked → (Nat → Prop) → World → Prop} {C0 C : Nat → Prop} {w0 w w' : World} {s : Asked} {u : Value} {L : List Int} {R : List (List Int)} {g m p c : Nat} {j : Int} {zs : List Value} (hA : Asker O K caps n w0.heap.size I)
    (hzs : L.map (Value.int .i64) = zs) (hL : L.length = m) (hp : p ≤ m) (hlt : g < w.heap.size) (hg : ¬ C g) (hbase : w0.heap.size ≤ g) (hS : St I C0 w0 s C w)
    (hU : Kd.R (Kd.slice 2 (Kd.int .i64)) 24 w w0.heap.size (fun k_ => ¬ C k_ ∧ some k_ ≠ (Value.slice (some ⟨g, 0, none⟩) (m + 1) c).ownBlock) u R)
    (hO : w'.ownsRow w0.heap.size 2 1 (.slice (some ⟨g, 0, none⟩) (m + 1) c) (m + 1) ((zs ++ [Value.int .i64 0]).take (p + 1) ++ ((zs ++ [Value.int .i64 0]).drop p).take (m + 1 - (p + 1)))) (hgr : w.grownBy w' (some g)) :
    (w'.cell? ⟨g, p, none⟩).isSome = true ∧ w'.frozen? ⟨g, p, none⟩ = false ∧ Ow (w'.setCell ⟨g, p, none⟩ (.int .i64 j)) w0.heap.size (.slice (some ⟨g, 0, none⟩) (m + 1) c) (L.take p ++ j :: L.drop p) ∧ St I C0 w0 s C (w'.setCell ⟨g, p, none⟩ (.int .i64 j)) ∧
      Kd.R (Kd.slice 2 (Kd.int .i64)) 24 (w'.setCell ⟨g, p, none⟩ (.int .i64 j)) w0.heap.size (fun k_ => ¬ C k_ ∧ some k_ ≠ (Value.slice (some ⟨g, 0, none⟩) (m + 1) c).ownBlock) u R := by
  have hl := hO.1
  have h1 := hO.stored p (.int .i64 j)
  subst hzs
  have hlm : (L.map (Value.int .i64)).length = m := by rw [List.length_map, hL]
  rw [shift_set hlm hp] at h1
  have hgr2 := hgr.trans h1.2
  refine ⟨?_, hO.frozenAt p, ?_, hS.grown hA hgr2 (fun q hq => by injection hq with hq; subst hq; exact ⟨hg, hbase⟩), ?_⟩
  · rw [hO.cellAt p (by omega), List.getElem?_eq_getElem (by rw [hl]; omega)]
    rfl
  · have hll : (L.take p ++ j :: L.drop p).length = m + 1 := by rw [List.length_append, List.length_cons, List.length_take, List.length_drop]; omega
    unfold Ow
    rw [hll, List.map_append, List.map_cons, List.map_take, List.map_drop]
    exact h1.1
  · refine Kd.R_step hU (fun q hq hql => ?_)
    have hne : some q ≠ some g := hq.2
    exact hgr2.block q hql hne

set_option maxHeartbeats 4000000 in
set_option maxRecDepth 1000000 in
theorem ysort_calls {O : Oracle} {K : FuncId} {caps : Array Value} {I : Asked → (Nat → Prop) → World → Prop} (N : Nat) (hN : N ≤ 2000) (w0 : World) (hA : Asker O K caps (N : Int) w0.heap.size I) (C0 : Nat → Prop) (hI : I [] C0 w0) :
    Calls Try.prog 27 #[.int .i64 (N : Int), .func (.func K) #[] caps] w0 fun e w' => ∃ v C', e = .returned (.tuple #[v, .bool (sort O (N : Int)).2.isSome]) ∧ I (sort O (N : Int)).1 C' w' ∧ Moved C0 C' w0 w' ∧
      Kd.R (Kd.int .i64) 2 w' w0.heap.size (fun k => ¬ C' k) v ((sort O (N : Int)).2.getD []) := by
  have HA := Aside0.mk hA
  have HE := hA.enter
  have HS0 := Aside0.mk (show St I C0 w0 [] C0 w0 from ⟨hI, Moved.refl _ _, hA.lt _ _ _ hI⟩)
  obtain ⟨i0, hi0, hz0, hz1, hz2⟩ := info_parts info2'
  obtain ⟨b0, hb0⟩ : ∃ b, w0.heap.size = b := ⟨_, rfl⟩
  have HB0 := Aside0.mk hb0
  clear hA hI
  go_enter Try.func27, Try.ntmps27
  go_upto_block 0 with fail
  go_cut [6] (fun s6 wx => ∃ (s : Asked) (C : Nat → Prop) (R : List (List Int)), Aside0 (runs O (N : Int) N [] 0 [] = (s, some R)) ∧ Aside0 (s.length ≤ 6 * N ∧ R.length ≤ N ∧ R.flatten.length = N ∧ ∀ l ∈ R, RowOk N l) ∧ Aside0 (St I C0 w0 s C wx) ∧ Aside0 (Kd.R (Kd.slice 2 (Kd.int .i64)) 24 wx w0.heap.size (fun k => ¬ C k) s6 R))
  case first =>
    go_wp2_with fail
    go_loopg [6, 7] N (fun kq v6 v7 w' => ∃ (i : Nat) (s : Asked) (C : Nat → Prop) (R : List (List Int)), v7 = .int .i64 (i : Int) ∧ (i ≤ N ∨ i = 0) ∧ N ≤ i + kq ∧ Aside0 (runs O (N : Int) kq s (i : Int) R = runs O (N : Int) N [] 0 []) ∧ Aside0 (s.length ≤ 6 * i ∧ R.length ≤ i ∧ R.flatten.length = i ∧ ∀ l ∈ R, RowOk N l) ∧
      Aside0 (St I C0 w0 s C w') ∧ Aside0 (Kd.R (Kd.slice 2 (Kd.int .i64)) 24 w' w0.heap.size (fun k => ¬ C k) v6 R))
    case atStart => exact ⟨0, [], C0, [], rfl, .inr rfl, by omega, ⟨rfl⟩, ⟨Nat.le_refl _, Nat.le_refl _, rfl, fun l hl => by cases hl⟩, HS0, ⟨Kd.R_nil _ _ _ _ _⟩⟩
    case round =>
      obtain ⟨i, s, C, R, rfl, hiN, hik, HM, HL, HS, HU⟩ := hrel
      by_cases hi : i < N
      · obtain ⟨kq, rfl⟩ : ∃ q, gk = q + 1 := ⟨gk - 1, by omega⟩
        go_upto_block 2 with fail
        have HS1 := Aside0.mk (HS.out.alloc HA.out (.cells #[.int .i64 (i : Int)] 2))
        have hnew : ¬ C wr.heap.size := HS.out.new (Nat.le_refl _)
        have HO1 := Aside0.mk (show Ow (wr.alloc (.cells #[.int .i64 (i : Int)] 2)) w0.heap.size (.slice (some ⟨wr.heap.size, 0, none⟩) 1 1) (span (i : Int) (0 + 1)) from
          one_own wr (i : Int) HS.out.mv.size)
        have HF1 := Aside0.mk (show Off C (.slice (some ⟨wr.heap.size, 0, none⟩) 1 1) from fun k hk => by
          have : wr.heap.size = k := by simpa [Value.ownBlock] using hk
          rw [← this]; exact hnew)
        have HU1 := Aside0.mk (show Kd.R (Kd.slice 2 (Kd.int .i64)) 24 (wr.alloc (.cells #[.int .i64 (i : Int)] 2)) w0.heap.size (fun k => ¬ C k ∧ some k ≠ (Value.slice (some ⟨wr.heap.size, 0, none⟩) 1 1).ownBlock) u6 R from
          Kd.R_mono (Kd.R_below (Kd.R_bound HU.out) (below_alloc (Below.refl _ _) _)) (fun k hk => ⟨hk.1, fun e => by
            have h1 : k = wr.heap.size := by simpa [Value.ownBlock] using e
            have := hk.2.2.1
            omega⟩))
        clear hnew HS HU
        go_cut [7, 8, 9] (fun s7 s8 s9 wx => ∃ (k : Nat) (down : Bool) (s' : Asked) (C' : Nat → Prop), s7 = .int .i64 ((i : Int) + ((k : Int) + 1)) ∧ s9 = .bool down ∧ i + k < N ∧ Aside0 (firstPart O (N : Int) s (i : Int) = (s', some ((i : Int) + ((k : Int) + 1), down))) ∧ Aside0 (s'.length ≤ s.length + (k + 1)) ∧
          Aside0 (Ow wx w0.heap.size s8 (span (i : Int) (k + 1))) ∧ Aside0 (Off C' s8) ∧ Aside0 (St I C0 w0 s' C' wx) ∧ Aside0 (Kd.R (Kd.slice 2 (Kd.int .i64)) 24 wx w0.heap.size (fun k => ¬ C' k ∧ some k ≠ s8.ownBlock) u6 R))
        case first =>
          generalize (wr.alloc (.cells #[.int .i64 (i : Int)] 2)) = w1 at *
          generalize (Value.slice (some ⟨wr.heap.size, 0, none⟩) 1 1) = v8 at *
          have HIN := Aside0.mk (show u6 = u6 from rfl)
          clear HIN
          go_wp2_with fail
          go_loopg [7, 8, 9] N (fun kq v7 v8 v9 w' => ∃ (k : Nat) (down : Bool) (s' : Asked) (C' : Nat → Prop), v7 = .int .i64 ((i : Int) + ((k : Int) + 1)) ∧ v9 = .bool down ∧ i + k < N ∧ N ≤ i + (k + 1) + kq ∧
            Aside0 ((k = 0 ∧ down = false ∧ s' = s) ∨ (1 ≤ k ∧ laterPart O (N : Int) down (N + 1 - k) s' ((i : Int) + ((k : Int) + 1)) = firstPart O (N : Int) s (i : Int))) ∧ Aside0 (s'.length ≤ s.length + k) ∧
            Aside0 (Ow w' w0.heap.size v8 (span (i : Int) (k + 1))) ∧ Aside0 (Off C' v8) ∧ Aside0 (St I C0 w0 s' C' w') ∧ Aside0 (Kd.R (Kd.slice 2 (Kd.int .i64)) 24 w' w0.heap.size (fun k => ¬ C' k ∧ some k ≠ v8.ownBlock) u6 R))
          case atStart => exact ⟨0, false, s, C, by first | rfl | simp, rfl, by omega, by omega, ⟨.inl ⟨rfl, rfl, rfl⟩⟩, ⟨Nat.le_refl _⟩, HO1, HF1, HS1, HU1⟩
          case round =>
            clear HS1 HO1 HF1 HU1
            obtain ⟨k, down, s', C', rfl, rfl, hkN, hkq, HP, HL2, HO, HF, HS, HU⟩ := hrel
            by_cases hlt : i + (k + 1) < N
            · obtain ⟨jq, rfl⟩ : ∃ q, gk = q + 1 := ⟨gk - 1, by omega⟩
              obtain ⟨g8, c8, rfl, hc8⟩ := span_form HO.out
              have hle : s'.length ≤ 10000000 := by have := HL2.out; have := HL.out.1; omega
              have CALL := Aside0.mk (HA.out.ask s' C' wr ((i : Int) + ((k : Int) + 1)) ((i : Int) + (k : Int)) HS.out.inv (by omega) (by omega) (by omega) (by omega) hle)
              go_wp2_with fail
              refine CALL.out.mono ?_
              rintro e w' ⟨rfl, C2, hI2, hm2⟩
              have HS2 := Aside0.mk (HS.out.asked HA.out hI2 hm2)
              have HOF := ow_moved HO.out HF.out hm2
              have HO2 := Aside0.mk HOF.1
              have HF2 := Aside0.mk HOF.2
              have HU2 := Aside0.mk (row_moved HU.out hm2)
              clear hI2 hm2 HOF CALL HS HO HF HU
              cases hr : O s'.length ((i : Int) + ((k : Int) + 1)) ((i : Int) + (k : Int)) with
              | none =>
                have HN0 := Aside0.mk (first_none HP.out hr hlt)
                have HEND := Aside0.mk (sort_none_runs hi HM.out HN0.out)
                clear hr HP HL2 HO2 HF2 HU2
                go_wp2
                go_ret2
                rw [HEND.out]
                exact ⟨_, C2, rfl, HS2.out.inv, HS2.out.mv, Kd.R_nil _ _ _ _ _⟩
              | some b =>
                have KEY := Aside0.mk (own_push (x := (i : Int) + ((k : Int) + 1)) HA.out HO2.out HF2.out HS2.out HU2.out)
                have HO3 := Aside0.mk (HO2.out.alloc (.cells #[.int .i64 ((i : Int) + ((k : Int) + 1))] 2))
                have hwz : w0.heap.size ≤ w'.heap.size := HS2.out.mv.size
                obtain ⟨zs, hzs⟩ : ∃ z, (span (i : Int) (k + 1)).map (Value.int .i64) = z := ⟨_, rfl⟩
                rw [span_length, hzs] at KEY HO3
                clear hzs
                by_cases hbd : k = 0 ∨ b = down
                · have HX := Aside0.mk (first_on HP.out hr hlt hbd)
                  clear hr HP HO2 HF2 HU2 HS2
                  by_cases hk0 : k = 0
                  · subst hk0
                    clear hbd
                    go_wp2_with (first | (at_builtin; refine wpList_append_own_at _ rfl _ _ 24 rfl w0.heap.size 2 i0 (.int .i64 0) 1 8 Try.underlying24 hi0 hz0 hz1 hz2 rfl (by decide) (.slice (some ⟨g8, 0, none⟩) (0 + 1) c8) (0 + 1) zs rfl HO3.out ⟨w'.heap.size, 0, none⟩ 1 1 [.int .i64 ((i : Int) + (((0 : Nat) : Int) + 1))] rfl rfl (cell_one_new _ _ _) (by intro u hu; simp at hu; subst hu; rfl) (by unfold maxLen; omega) (by omega) (by simp; omega) ?_; intro v' w5 hown hgrow hnil hat) | go_in)
                    obtain ⟨q1, q2, q3, q4⟩ := KEY.out v' w5 hown hgrow hat
                    have Q1 := Aside0.mk q1
                    have Q2 := Aside0.mk q2
                    have Q3 := Aside0.mk q3
                    have Q4 := Aside0.mk q4
                    clear q1 q2 q3 q4 KEY HO3 hown hgrow hnil hat
                    go_roundg jq
                    case measure => omega
                    case rel => exact ⟨0 + 1, b, _, C2, by first | rfl | (show Value.int .i64 _ = _; congr 1; omega), rfl, by omega, by omega, ⟨.inr ⟨by omega, HX.out⟩⟩, ⟨by have := HL2.out; rw [List.length_append, List.length_singleton]; omega⟩, ⟨by
                      have e : span (i : Int) (0 + 1 + 1) = span (i : Int) (0 + 1) ++ [(i : Int) + (((0 : Nat) : Int) + 1)] := by rw [span]; congr 2
                      rw [e]; exact Q1.out⟩, Q2, Q3, Q4⟩
                  · have hbd2 : b = down := hbd.resolve_left hk0
                    subst hbd2
                    have hk1 : ((k : Int) + 1 == 1) = false := beq_eq_false_iff_ne.mpr (by omega)
                    clear hbd
                    go_wp2_with (first | (at_builtin; refine wpList_append_own_at _ rfl _ _ 24 rfl w0.heap.size 2 i0 (.int .i64 0) 1 8 Try.underlying24 hi0 hz0 hz1 hz2 rfl (by decide) (.slice (some ⟨g8, 0, none⟩) (k + 1) c8) (k + 1) zs rfl HO3.out ⟨w'.heap.size, 0, none⟩ 1 1 [.int .i64 ((i : Int) + ((k : Int) + 1))] rfl rfl (cell_one_new _ _ _) (by intro u hu; simp at hu; subst hu; rfl) (by unfold maxLen; omega) (by omega) (by simp; omega) ?_; intro v' w5 hown hgrow hnil hat) | go_in)
                    obtain ⟨q1, q2, q3, q4⟩ := KEY.out v' w5 hown hgrow hat
                    have Q1 := Aside0.mk q1
                    have Q2 := Aside0.mk q2
                    have Q3 := Aside0.mk q3
                    have Q4 := Aside0.mk q4
                    clear q1 q2 q3 q4 KEY HO3 hown hgrow hnil hat
                    go_roundg jq
                    case measure => omega
                    case rel => exact ⟨k + 1, b, _, C2, by first | rfl | (show Value.int .i64 _ = _; congr 1; omega), rfl, by omega, by omega, ⟨.inr ⟨by omega, HX.out⟩⟩, ⟨by have := HL2.out; rw [List.length_append, List.length_singleton]; omega⟩, ⟨by
                      have e : span (i : Int) (k + 1 + 1) = span (i : Int) (k + 1) ++ [(i : Int) + ((k : Int) + 1)] := by rw [span]; congr 2
                      rw [e]; exact Q1.out⟩, Q2, Q3, Q4⟩
                · have HX := Aside0.mk (first_break HP.out hr hlt hbd)
                  have hk0 : k ≠ 0 := fun e => hbd (.inl e)
                  have hk1 : ((k : Int) + 1 == 1) = false := beq_eq_false_iff_ne.mpr (by omega)
                  have hne := bools_ne (fun e => hbd (.inr e))
                  clear hr HP KEY HO3 hbd hk0
                  have HL3 := Aside0.mk (show (s' ++ [((i : Int) + ((k : Int) + 1), (i : Int) + (k : Int))]).length ≤ s.length + (k + 1) by have := HL2.out; rw [List.length_append, List.length_singleton]; omega)
                  rcases hne with ⟨rfl, rfl⟩ | ⟨rfl, rfl⟩
                  · go_wp2
                    go_meet
                    exact ⟨k, false, _, C2, by first | rfl | simp, rfl, hkN, HX, HL3, HO2, HF2, HS2, HU2⟩
                  · go_wp2
                    go_meet
                    exact ⟨k, true, _, C2, by first | rfl | simp, rfl, hkN, HX, HL3, HO2, HF2, HS2, HU2⟩
            · have HX := Aside0.mk (first_stop HP.out hlt hkN)
              go_wp2_with fail
              go_meet
              exact ⟨k, down, s', C', by first | rfl | simp, rfl, hkN, HX, ⟨by have := HL2.out; omega⟩, HO, HF, HS, HU⟩
        case rest =>
          clear HS1 HO1 HF1 HU1
          obtain ⟨k, down, s', C', rfl, rfl, hkN, HFP, HL2, HO, HF, HS, HU⟩ := hcut
          go_upto_if 63 with fail
          go_cut [8] (fun s8 wx => Aside0 (Ow wx w0.heap.size s8 (if down = true then (span (i : Int) (k + 1)).reverse else span (i : Int) (k + 1))) ∧ Aside0 (Off C' s8) ∧ Aside0 (St I C0 w0 s' C' wx) ∧ Aside0 (Kd.R (Kd.slice 2 (Kd.int .i64)) 24 wx w0.heap.size (fun k => ¬ C' k ∧ some k ≠ s8.ownBlock) u6 R))
          case first =>
            cases down with
            | false =>
              go_wp2_with fail
              go_meet
              exact ⟨HO, HF, HS, HU⟩
            | true =>
              obtain ⟨g8, c8, rfl, _⟩ := span_form HO.out
              have HT0 := Aside0.mk (turn_zero (span (i : Int) (k + 1)))
              have HLN := Aside0.mk (span_length (i : Int) (k + 1))
              have HF8 := HF.out g8 rfl
              go_wp2_with fail
              go_loopg [12, 13] k (fun kq v12 v13 w' => ∃ (m : Nat) (l : List Int), v12 = .int .i64 (m : Int) ∧ v13 = .int .i64 ((k : Int) - (m : Int)) ∧ 2 * m ≤ k + 1 ∧ k ≤ 2 * m + kq ∧ Aside0 (Turn (span (i : Int) (k + 1)) l m) ∧
                Aside0 (w'.ownsRow w0.heap.size 2 1 (.slice (some ⟨g8, 0, none⟩) (k + 1) c8) (k + 1) (l.map (Value.int .i64))) ∧ Aside0 (St I C0 w0 s' C' w') ∧ Aside0 (Kd.R (Kd.slice 2 (Kd.int .i64)) 24 w' w0.heap.size (fun k_ => ¬ C' k_ ∧ some k_ ≠ (Value.slice (some ⟨g8, 0, none⟩) (k + 1) c8).ownBlock) u6 R))
              case atStart => exact ⟨0, _, by first | rfl | simp, by first | rfl | (simp; done) | (show Value.int .i64 _ = _; congr 1; omega), by omega, by omega, HT0, ⟨by have h := HO.out; unfold Ow at h; rw [span_length] at h; exact h⟩, HS, HU⟩
              case round =>
                clear HO HS HU HT0
                obtain ⟨m, l, rfl, rfl, hm1, hm2, HT, HO, HS, HU⟩ := hrel
                by_cases hc : 2 * m < k
                · obtain ⟨jq, rfl⟩ : ∃ q, gk = q + 1 := ⟨gk - 1, by omega⟩
                  have hnl := HT.out.1
                  rw [HLN.out] at hnl
                  obtain ⟨x, hx⟩ : ∃ x, l[m]? = some x := ⟨_, List.getElem?_eq_getElem (by omega)⟩
                  obtain ⟨y, hy⟩ : ∃ y, l[k - m]? = some y := ⟨_, List.getElem?_eq_getElem (by omega)⟩
                  have hkm : (k : Int) - (m : Int) = ((k - m : Nat) : Int) := by omega
                  rw [hkm]
                  have hxc : wr.cell? ⟨g8, m, none⟩ = some (.int .i64 x) := by rw [HO.out.cellAt m (by omega), List.getElem?_map, hx]; rfl
                  have hyc : wr.cell? ⟨g8, k - m, none⟩ = some (.int .i64 y) := by rw [HO.out.cellAt (k - m) (by omega), List.getElem?_map, hy]; rfl
                  have hxf := HO.out.frozenAt m
                  have hyf := HO.out.frozenAt (k - m)
                  have HT2 := Aside0.mk (turn_step HT.out (by rw [HLN.out]; omega) x y hx (by rw [HLN.out, show k + 1 - 1 - m = k - m by omega]; exact hy))
                  have hcc : (m : Int) < ((k - m : Nat) : Int) := by omega
                  obtain ⟨mm, hmm⟩ : ∃ mm, k - m = mm := ⟨_, rfl⟩
                  rw [hmm] at hyc hyf hcc ⊢
                  have hmm2 : mm ≤ k := by omega
                  have HMM := Aside0.mk hmm
                  clear hx hy hnl hkm hmm HT
                  go_upto_region 20 with fail
                  have KEY := swap_step HA.out HO.out HF8 HS.out HU.out m mm x y
                  have Q1 := Aside0.mk KEY.1
                  have Q2 := Aside0.mk KEY.2.1
                  have Q3 := Aside0.mk KEY.2.2
                  clear KEY HO HS HU
                  go_region
                  clear hxc hyc hxf hyf
                  generalize (((wr.setCell ⟨g8, m, none⟩ (Value.int .i64 y)).setCell ⟨g8, mm, none⟩ (Value.int .i64 x)).drew) = w9 at *
                  go_wp2
                  go_roundg jq
                  case measure => omega
                  case rel => exact ⟨m + 1, _, by first | rfl | simp, by show Value.int .i64 _ = _; congr 1; have := HMM.out; omega, by have := HMM.out; omega, by omega, ⟨by have h := HT2.out; rw [HLN.out, show k + 1 - 1 - m = mm by have := HMM.out; omega] at h; exact h⟩, Q1, Q2, Q3⟩
                · have HTE := Aside0.mk (turn_end HT.out (by rw [HLN.out]; omega))
                  have hcc : ¬ (m : Int) < (k : Int) - (m : Int) := by omega
                  go_wp2_with fail
                  go_meet
                  refine ⟨⟨?_⟩, HF, HS, HU⟩
                  rw [if_pos trivial, ← HTE.out]
                  have h := HO.out
                  have hl := HT.out.1
                  unfold Ow
                  rw [hl, span_length]
                  exact h
          case rest =>
            clear HO HF HS HU
            obtain ⟨HO, HF, HS, HU⟩ := hcut
            obtain ⟨L0, hL0⟩ : ∃ L, (if down = true then (span (i : Int) (k + 1)).reverse else span (i : Int) (k + 1)) = L := ⟨_, rfl⟩
            rw [hL0] at HO
            have HLL := Aside0.mk hL0
            clear hL0
            go_upto_block 6 with fail
            go_cut [7, 8] (fun s7 s8 wx => ∃ (j : Nat) (L : List Int) (s2 : Asked) (C2 : Nat → Prop), s7 = .int .i64 (j : Int) ∧ i < j ∧ j ≤ N ∧ Aside0 (L.length = j - i ∧ ∀ x ∈ L, 0 ≤ x ∧ x < (N : Int)) ∧ Aside0 (fill O (N : Int) 6 s' L0 ((i : Int) + ((k : Int) + 1)) = (s2, some (L, (j : Int)))) ∧ Aside0 (s2.length ≤ s.length + 6 * (j - i)) ∧
              Aside0 (Ow wx w0.heap.size s8 L) ∧ Aside0 (Off C2 s8) ∧ Aside0 (St I C0 w0 s2 C2 wx) ∧ Aside0 (Kd.R (Kd.slice 2 (Kd.int .i64)) 24 wx w0.heap.size (fun k => ¬ C2 k ∧ some k ≠ s8.ownBlock) u6 R))
            case first =>
              have hLL0 : L0.length = k + 1 := by rw [← HLL.out]; split <;> simp [span_length]
              have HLN := Aside0.mk hLL0
              clear hLL0
              go_wp2_with fail
              go_loopg [7, 8] 6 (fun kq v7 v8 w' => ∃ (j f : Nat) (L : List Int) (s2 : Asked) (C2 : Nat → Prop), v7 = .int .i64 (j : Int) ∧ i < j ∧ j ≤ N ∧ 6 ≤ f + L.length ∧ 6 ≤ kq + L.length ∧ 1 ≤ L.length ∧ L.length ≤ 2000 ∧ Aside0 (L.length = j - i ∧ ∀ x ∈ L, 0 ≤ x ∧ x < (N : Int)) ∧
                Aside0 (fill O (N : Int) f s2 L (j : Int) = fill O (N : Int) 6 s' L0 ((i : Int) + ((k : Int) + 1))) ∧ Aside0 (s2.length ≤ s.length + 6 * (j - i)) ∧
                Aside0 (Ow w' w0.heap.size v8 L) ∧ Aside0 (Off C2 v8) ∧ Aside0 (St I C0 w0 s2 C2 w') ∧ Aside0 (Kd.R (Kd.slice 2 (Kd.int .i64)) 24 w' w0.heap.size (fun k => ¬ C2 k ∧ some k ≠ v8.ownBlock) u6 R))
              case atStart => exact ⟨i + (k + 1), 6, L0, s', C', by first | rfl | (show Value.int .i64 _ = _; congr 1; omega), by omega, by omega, by omega, by have := HLN.out; omega, by have := HLN.out; omega, by have := HLN.out; omega, ⟨by have := HLN.out; omega, fun x hx => by
                rw [← HLL.out] at hx
                have h1 : x ∈ span (i : Int) (k + 1) := by split at hx <;> first | exact List.mem_reverse.1 hx | exact hx
                have := span_mem h1
                omega⟩, ⟨by rw [show ((i + (k + 1) : Nat) : Int) = (i : Int) + ((k : Int) + 1) by omega]⟩, ⟨by have := HL2.out; omega⟩, HO, HF, HS, HU⟩
              case round =>
                clear HO HF HS HU
                obtain ⟨j, f, L, s2, C2, rfl, hij, hjN, hf6, hkq6, hL1, hL2, HOK, HM3, HL4, HO, HF, HS, HU⟩ := hrel
                obtain ⟨g8, c8, n8, hn8, rfl⟩ := own_form HO.out hL1
                rw [hn8] at hf6 hkq6 hL1 hL2
                have HNL := Aside0.mk hn8
                clear hn8
                by_cases hc : j < N ∧ n8 < 6
                · obtain ⟨f, rfl⟩ : ∃ q, f = q + 1 := ⟨f - 1, by omega⟩
                  obtain ⟨jq, rfl⟩ : ∃ q, gk = q + 1 := ⟨gk - 1, by omega⟩
                  obtain ⟨hc1, hc2⟩ := hc
                  go_upto_block 8 with fail
                  have hdd : decide ((n8 : Int) < 6) = true := by simp; omega
                  rw [hdd]
                  clear hdd
                  go_cut [14] (fun s14 wx => ∃ (p : Nat) (s3 : Asked) (C3 : Nat → Prop), s14 = .int .i64 (p : Int) ∧ p ≤ n8 ∧ Aside0 (place O L (j : Int) 10 s2 0 L.length = (s3, some p)) ∧ Aside0 (s3.length ≤ s2.length + 5) ∧
                    Aside0 (Ow wx w0.heap.size (.slice (some ⟨g8, 0, none⟩) n8 c8) L) ∧ Aside0 (Off C3 (.slice (some ⟨g8, 0, none⟩) n8 c8)) ∧ Aside0 (St I C0 w0 s3 C3 wx) ∧ Aside0 (Kd.R (Kd.slice 2 (Kd.int .i64)) 24 wx w0.heap.size (fun k => ¬ C3 k ∧ some k ≠ (Value.slice (some ⟨g8, 0, none⟩) n8 c8).ownBlock) u6 R))
                  case first =>
                    have HC2 := Aside0.mk hc2
                    clear hc2
                    go_wp2_with fail
                    go_loopg [14, 15] n8 (fun kq v14 v15 w' => ∃ (lo hi f2 : Nat) (s3 : Asked) (C3 : Nat → Prop), v14 = .int .i64 (lo : Int) ∧ v15 = .int .i64 (hi : Int) ∧ lo ≤ hi ∧ hi ≤ n8 ∧ hi ≤ lo + kq ∧ hi ≤ lo + f2 ∧ Aside0 (place O L (j : Int) f2 s3 lo hi = place O L (j : Int) 10 s2 0 L.length) ∧ Aside0 (s3.length + (hi - lo) ≤ s2.length + 5) ∧
                      Aside0 (Ow w' w0.heap.size (.slice (some ⟨g8, 0, none⟩) n8 c8) L) ∧ Aside0 (Off C3 (.slice (some ⟨g8, 0, none⟩) n8 c8)) ∧ Aside0 (St I C0 w0 s3 C3 w') ∧ Aside0 (Kd.R (Kd.slice 2 (Kd.int .i64)) 24 w' w0.heap.size (fun k => ¬ C3 k ∧ some k ≠ (Value.slice (some ⟨g8, 0, none⟩) n8 c8).ownBlock) u6 R))
                    case atStart => exact ⟨0, n8, 10, s2, C2, by first | rfl | simp, rfl, by omega, Nat.le_refl _, by omega, by omega, ⟨by rw [HNL.out]⟩, ⟨by omega⟩, HO, HF, HS, HU⟩
                    case round =>
                      clear HO HF HS HU
                      obtain ⟨lo, hh, f2, s3, C3, rfl, rfl, hlh, hhn, hkq, hf2, HPL, HL5, HO, HF, HS, HU⟩ := hrel
                      by_cases hlt : lo < hh
                      · obtain ⟨mid, hmid⟩ : ∃ m, (lo + hh) / 2 = m := ⟨_, rfl⟩
                        have hm1 : lo ≤ mid ∧ mid < hh := by omega
                        have hmI : ((lo : Int) + (hh : Int)) / 2 = (mid : Int) := by omega
                        have hmT : Int.tdiv ((lo : Int) + (hh : Int)) 2 = (mid : Int) := by rw [Int.tdiv_eq_ediv_of_nonneg (by omega)]; exact hmI
                        obtain ⟨y, hy⟩ : ∃ y, L.getD mid 0 = y := ⟨_, rfl⟩
                        have hml : mid < L.length := by rw [HNL.out]; omega
                        have hyr : 0 ≤ y ∧ y < (N : Int) := by
                          rw [← hy, List.getD_eq_getElem?_getD, List.getElem?_eq_getElem hml]
                          exact HOK.out.2 _ (List.getElem_mem hml)
                        have hcell : wr.cell? ⟨g8, mid, none⟩ = some (.int .i64 y) := by
                          have h1 := HO.out
                          unfold Ow at h1
                          rw [HNL.out] at h1
                          rw [h1.cellAt mid (by omega), List.getElem?_map, List.getElem?_eq_getElem hml, ← hy, List.getD_eq_getElem?_getD, List.getElem?_eq_getElem hml]
                          rfl
                        have hle : s3.length ≤ 10000000 := by have := HL5.out; have := HL4.out; have := HL2.out; have := HL.out.1; omega
                        have CALL := Aside0.mk (HA.out.ask s3 C3 wr (j : Int) y HS.out.inv (by omega) (by omega) hyr.1 hyr.2 hle)
                        have HY := Aside0.mk hy
                        have HMID := Aside0.mk hmid
                        clear hml hyr hle hy hmid
                        go_wp2_with fail
                        refine CALL.out.mono ?_
                        rintro e w' ⟨rfl, C4, hI4, hm4⟩
                        have HS4 := Aside0.mk (HS.out.asked HA.out hI4 hm4)
                        have HOF := ow_moved HO.out HF.out hm4
                        have HO4 := Aside0.mk HOF.1
                        have HF4 := Aside0.mk HOF.2
                        have HU4 := Aside0.mk (row_moved HU.out hm4)
                        clear hI4 hm4 HOF CALL HS HO HF HU hcell
                        cases hr : O s3.length (j : Int) y with
                        | none =>
                          have HEND := Aside0.mk (sort_none_run hi HM.out (run1_of HFP.out (X := (s3 ++ [((j : Int), y)], none)) (by
                            rw [HLL.out, ← HM3.out]
                            refine fill_none (by omega) (by rw [HNL.out]; exact HC2.out) ?_
                            rw [← HPL.out, place_none hlt hf2 HMID.out (by rw [HY.out]; exact hr), HY.out])))
                          clear hr HPL HL5 HO4 HF4 HU4
                          go_wp2
                          go_ret2
                          rw [HEND.out]
                          exact ⟨_, C4, rfl, HS4.out.inv, HS4.out.mv, Kd.R_nil _ _ _ _ _⟩
                        | some b =>
                          have HX := Aside0.mk (place_on hlt hf2 HMID.out b (by rw [HY.out]; exact hr))
                          obtain ⟨jq2, rfl⟩ : ∃ q, gk = q + 1 := ⟨gk - 1, by omega⟩
                          clear hr
                          cases b with
                          | true =>
                            go_wp2
                            go_roundg jq2
                            case measure => omega
                            case rel => exact ⟨lo, mid, f2 - 1, _, C4, by first | rfl | simp, by first | rfl | simp, by omega, by omega, by omega, by omega, ⟨by rw [← HPL.out, HX.out, if_pos trivial, HY.out]⟩, ⟨by have := HL5.out; rw [List.length_append, List.length_singleton]; omega⟩, HO4, HF4, HS4, HU4⟩
                          | false =>
                            go_wp2
                            go_roundg jq2
                            case measure => omega
                            case rel => exact ⟨mid + 1, hh, f2 - 1, _, C4, by first | rfl | simp, by first | rfl | simp, by omega, by omega, by omega, by omega, ⟨by rw [← HPL.out, HX.out, if_neg (by simp), HY.out]⟩, ⟨by have := HL5.out; rw [List.length_append, List.length_singleton]; omega⟩, HO4, HF4, HS4, HU4⟩
                      · have HX := Aside0.mk (show place O L (j : Int) 10 s2 0 L.length = (s3, some lo) by
                          rw [← HPL.out]; exact place_stop hlt)
                        go_wp2_with fail
                        go_meet
                        exact ⟨lo, s3, C3, rfl, by omega, HX, ⟨by have := HL5.out; omega⟩, HO, HF, HS, HU⟩
                  case rest =>
                    clear HO HF HS HU
                    obtain ⟨p, s3, C3, rfl, hpn, HPL, HL5, HO, HF, HS, HU⟩ := hcut
                    have KEY := Aside0.mk (own_push (x := 0) HA.out HO.out HF.out HS.out HU.out)
                    have HO3 := Aside0.mk (HO.out.alloc (.cells #[.int .i64 0] 2))
                    have hwz : w0.heap.size ≤ wc.heap.size := HS.out.mv.size
                    rw [HNL.out] at KEY HO3
                    obtain ⟨zs, hzs⟩ : ∃ z, L.map (Value.int .i64) = z := ⟨_, rfl⟩
                    rw [hzs] at KEY HO3
                    have HZS := Aside0.mk hzs
                    clear hzs HO HF HS HU
                    go_wp2_with (first | (at_builtin; refine wpList_append_own_at _ rfl _ _ 24 rfl w0.heap.size 2 i0 (.int .i64 0) 1 8 Try.underlying24 hi0 hz0 hz1 hz2 rfl (by decide) (.slice (some ⟨g8, 0, none⟩) n8 c8) n8 zs rfl HO3.out ⟨wc.heap.size, 0, none⟩ 1 1 [.int .i64 0] rfl rfl (cell_one_new _ _ _) (by intro u hu; simp at hu; subst hu; rfl) (by unfold maxLen; omega) (by omega) (by simp; omega) ?_; intro v' w5 hown hgrow hnil hat) | fail)
                    obtain ⟨g9, c9, rfl, hb9, hl9⟩ := hown.form (by omega)
                    obtain ⟨q1, q2, q3, q4⟩ := KEY.out _ w5 hown hgrow hat
                    have hF9 := q2 g9 rfl
                    have hz3 : (Try.prog.info? 2).map (fun x => x.size) = some 1 := by rw [hi0]; simp [hz1]
                    have HONE := Aside0.mk (show ∀ v ∈ zs ++ [Value.int .i64 0], v.oneCell' = true from fun v hv => by
                      rcases List.mem_append.1 hv with hv | hv
                      · rw [← HZS.out] at hv
                        obtain ⟨x, _, rfl⟩ := List.mem_map.1 hv
                        rfl
                      · rw [List.mem_singleton.1 hv]
                        rfl)
                    have HOWN := Aside0.mk hown
                    have Q3 := Aside0.mk q3
                    have Q4 := Aside0.mk q4
                    clear q1 q2 q3 q4 KEY HO3 hown hgrow hnil hat
                    obtain ⟨p1, hp1⟩ : ∃ p1, p + 1 = p1 := ⟨_, rfl⟩
                    have hwp : IntKind.i64.wrap ((p : Int) + 1) = (p1 : Int) := by rw [IntWalk.i64_in _ (by omega)]; omega
                    have hwb : 0 ≤ (p1 : Int) ∧ (p1 : Int) ≤ (n8 : Int) + 1 := by omega
                    have hpb : 0 ≤ (p : Int) ∧ (p : Int) ≤ (n8 : Int) + 1 := by omega
                    have hcb := hown_cap HOWN.out
                    have hcp : ¬ c9 = p := by omega
                    have HP1 := Aside0.mk (show p + 1 = p1 ∧ p < n8 + 1 from ⟨hp1, by omega⟩)
                    have HCB := Aside0.mk hcb
                    clear hp1 hcb
                    by_cases hcc : c9 = p1
                    · subst hcc
                      go_region_law (refine step_shift rfl (.tmp 129) (.tmp 132) 24 rfl 2 Try.underlying24 hz3 HOWN.out.drew HP1.out.2 HONE.out (some ⟨g9, 0, none⟩) (n8 + 1 - c9) 0 (n8 + 1 - p) (c9 - p) (by simp [Act.eval, Act.put]) (by simp [Act.eval, Act.put]) (by have := HP1.out; omega) rfl (by intro hpp; have := HP1.out; have := HCB.out; omega) ?_; intro w6 ho6 hg6)
                      obtain ⟨r1, r2, r3, r4, r5⟩ := put_step (j := (j : Int)) HA.out HZS.out HNL.out hpn hl9 hF9 hb9 Q3.out Q4.out ho6 ((show w5.grownBy w5.drew (some g9) from ⟨rfl, rfl, rfl, Nat.le_refl _, fun _ _ _ => rfl⟩).trans hg6)
                      have R3 := Aside0.mk r3
                      have R4 := Aside0.mk r4
                      have R5 := Aside0.mk r5
                      obtain ⟨vv, hvv⟩ := Option.isSome_iff_exists.1 r1
                      clear r1 r3 r4 r5 ho6 hg6 Q3 Q4 HOWN
                      go_wp2_with fail
                      go_roundg jq
                      case measure => omega
                      case rel =>
                        have hnl : (L.take p ++ (j : Int) :: L.drop p).length = n8 + 1 := by
                          have := HNL.out
                          rw [List.length_append, List.length_cons, List.length_take, List.length_drop]
                          omega
                        refine ⟨j + 1, f, L.take p ++ (j : Int) :: L.drop p, s3, C3, by first | rfl | simp, by omega, by omega, by omega, by omega, by omega, by omega, ⟨by have := HOK.out.1; have := HNL.out; omega, fun x hx => ?_⟩, ⟨?_⟩, ⟨by have := HL5.out; have := HL4.out; omega⟩, R3, ⟨fun k hk => by
                          have : g9 = k := by simpa [Value.ownBlock] using hk
                          rw [← this]; exact hF9⟩, R4, R5⟩
                        · rcases List.mem_append.1 hx with hx | hx
                          · exact HOK.out.2 x (List.mem_of_mem_take hx)
                          · rcases List.mem_cons.1 hx with rfl | hx
                            · omega
                            · exact HOK.out.2 x (List.mem_of_mem_drop hx)
                        · rw [← HM3.out, fill_on (by omega) (by rw [HNL.out]; exact hc2) HPL.out]
                          rfl
                    · go_region_law (refine step_shift rfl (.tmp 129) (.tmp 132) 24 rfl 2 Try.underlying24 hz3 HOWN.out.drew HP1.out.2 HONE.out (some ⟨g9, p1, none⟩) (n8 + 1 - p1) (c9 - p1) (n8 + 1 - p) (c9 - p) (by simp [Act.eval, Act.put]) (by simp [Act.eval, Act.put]) (by have := HP1.out; omega) rfl (by intro hpp; rw [HP1.out.1]) ?_; intro w6 ho6 hg6)
                      obtain ⟨r1, r2, r3, r4, r5⟩ := put_step (j := (j : Int)) HA.out HZS.out HNL.out hpn hl9 hF9 hb9 Q3.out Q4.out ho6 ((show w5.grownBy w5.drew (some g9) from ⟨rfl, rfl, rfl, Nat.le_refl _, fun _ _ _ => rfl⟩).trans hg6)
                      have R3 := Aside0.mk r3
                      have R4 := Aside0.mk r4
                      have R5 := Aside0.mk r5
                      obtain ⟨vv, hvv⟩ := Option.isSome_iff_exists.1 r1
                      clear r1 r3 r4 r5 ho6 hg6 Q3 Q4 HOWN
                      go_wp2_with fail
                      go_roundg jq
                      case measure => omega
                      case rel =>
                        have hnl : (L.take p ++ (j : Int) :: L.drop p).length = n8 + 1 := by
                          have := HNL.out
                          rw [List.length_append, List.length_cons, List.length_take, List.length_drop]
                          omega
                        refine ⟨j + 1, f, L.take p ++ (j : Int) :: L.drop p, s3, C3, by first | rfl | simp, by omega, by omega, by omega, by omega, by omega, by omega, ⟨by have := HOK.out.1; have := HNL.out; omega, fun x hx => ?_⟩, ⟨?_⟩, ⟨by have := HL5.out; have := HL4.out; omega⟩, R3, ⟨fun k hk => by
                          have : g9 = k := by simpa [Value.ownBlock] using hk
                          rw [← this]; exact hF9⟩, R4, R5⟩
                        · rcases List.mem_append.1 hx with hx | hx
                          · exact HOK.out.2 x (List.mem_of_mem_take hx)
                          · rcases List.mem_cons.1 hx with rfl | hx
                            · omega
                            · exact HOK.out.2 x (List.mem_of_mem_drop hx)
                        · rw [← HM3.out, fill_on (by omega) (by rw [HNL.out]; exact hc2) HPL.out]
                          rfl
                · have HX := Aside0.mk (show fill O (N : Int) 6 s' L0 ((i : Int) + ((k : Int) + 1)) = (s2, some (L, (j : Int))) by
                    rw [← HM3.out]
                    exact fill_stop (by rw [HNL.out]; omega))
                  by_cases hc1 : j < N
                  · have hc2 : ¬ n8 < 6 := fun h => hc ⟨hc1, h⟩
                    clear hc
                    go_wp2_with fail
                    go_meet
                    exact ⟨j, L, s2, C2, rfl, hij, hjN, HOK, HX, HL4, HO, HF, HS, HU⟩
                  · clear hc
                    go_wp2_with fail
                    go_meet
                    exact ⟨j, L, s2, C2, rfl, hij, hjN, HOK, HX, HL4, HO, HF, HS, HU⟩
            case rest =>
              clear HO HF HS HU
              obtain ⟨j, L, s2, C2, rfl, hij, hjN, HOK, HFI, HL3, HO, HF, HS, HU⟩ := hcut
              have HM2 := Aside0.mk (show runs O (N : Int) kq s2 (j : Int) (R ++ [L]) = runs O (N : Int) N [] 0 [] by
                rw [← HM.out, runs, if_pos (by omega), run1_of (X := (s2, some (L, (j : Int)))) HFP.out (by rw [HLL.out]; exact HFI.out)])
              have HRL : R.length ≤ 2000 := by have := HL.out.2.1; omega
              obtain ⟨a8, c8, n8, rfl⟩ := ow_shape HO.out
              have HX1 := Aside0.mk (keep_run HO.out HF.out)
              have HX2 := Aside0.mk (Kd.R_mono HU.out (fun k hk => hk.1))
              have HX3 := Aside0.mk (show ∀ k, (¬ C2 k ∧ (Value.slice a8 n8 c8).ownBlock = some k) → ¬ C2 k ∧ some k ≠ u6.ownBlock from fun k hk => ⟨hk.1, fun e => (HU.out.1 k e.symm).2 hk.2.symm⟩)
              have HX4 := Aside0.mk (show ∀ k, wc.heap.size ≤ k → ¬ C2 k from fun k hk => HS.out.new hk)
              have hwz : w0.heap.size ≤ wc.heap.size := HS.out.mv.size
              go_wp2_with (first | (at_builtin; (refine Kd.R_append (Kd.slice 2 (Kd.int .i64)) (w0 := wc) (W := wc) w0.heap.size ?hgd1 (.tmp 138) (.tmp 140) 62 24 (.slice none 0 0) 24 ?ho1 Try.underlying62 info24' rfl (by decide) (by decide) u6 R L [.slice a8 n8 c8] (fun k => ¬ C2 k) (fun k => ¬ C2 k ∧ (Value.slice a8 n8 c8).ownBlock = some k) ?hs1 ?hx1 HX1.out HX3.out HX4.out HX2.out (Below.refl _ _) hwz (by omega) ?hk1; (case hgd1 => rfl); (case ho1 => rfl); (case hs1 => rfl); (case hx1 => rfl); intro v1 w5 hR5 hb5 hg5 hat5)) | go_in)
              have HU5 := Aside0.mk hR5
              have HS5 := Aside0.mk (HS.out.grown HA.out hg5 (fun k hk => ⟨(HX2.out.1 k hk), (Kd.R_base HX2.out k hk)⟩))
              clear hR5 hb5 hg5 hat5 HX1 HX2 HX3 HX4 HO HF HS HU
              go_roundg kq
              case measure => omega
              case rel => exact ⟨j, s2, C2, R ++ [L], rfl, by omega, by omega, HM2, ⟨by have := HL3.out; have := HL.out.1; omega, by have := HL.out.2.1; rw [List.length_append, List.length_singleton]; omega, by have := HL.out.2.2.1; have := HOK.out.1; rw [List.flatten_append, List.length_append, List.flatten_cons, List.flatten_nil, List.append_nil]; omega, fun l hl => by
                rcases List.mem_append.1 hl with hl | hl
                · exact HL.out.2.2.2 l hl
                · rw [List.mem_singleton.1 hl]
                  exact ⟨by have := HOK.out.1; omega, HOK.out.2⟩⟩, HS5, HU5⟩
      · have hiN2 : i = N := by omega
        subst hiN2
        have HX := Aside0.mk (show runs O (i : Int) i [] 0 [] = (s, some R) by rw [← HM.out]; exact runs_stop O i gk s R)
        go_wp2_with fail
        go_meet
        exact ⟨s, C, R, HX, HL, HS, HU⟩
  case rest =>
    clear HS0
    obtain ⟨s, C, R, HRU, HL, HS, HU⟩ := hcut
    go_upto_block 10 with fail
    go_cut [6] (fun s6 wx => ∃ (s1 : Asked) (C1 : Nat → Prop) (R1 : List (List Int)), R1.length ≤ 1 ∧ Aside0 (passes O R.length s R = (s1, some R1)) ∧ Aside0 (R1.flatten.length = N ∧ ∀ l ∈ R1, RowOk N l) ∧ Aside0 (St I C0 w0 s1 C1 wx) ∧ Aside0 (Kd.R (Kd.slice 2 (Kd.int .i64)) 24 wx w0.heap.size (fun k => ¬ C1 k) s6 R1))
    case first =>
      go_wp2_with fail
      go_loopg [6] N (fun kq v6 w' => ∃ (f : Nat) (s1 : Asked) (C1 : Nat → Prop) (R1 : List (List Int)), R1.length ≤ f ∧ R1.length ≤ kq + 1 ∧ R1.length ≤ 2000 ∧ Aside0 (passes O f s1 R1 = passes O R.length s R) ∧ Aside0 (s1.length + 2000 * R1.length ≤ 4012000) ∧ Aside0 (R1.flatten.length = N ∧ ∀ l ∈ R1, RowOk N l) ∧
        Aside0 (St I C0 w0 s1 C1 w') ∧ Aside0 (Kd.R (Kd.slice 2 (Kd.int .i64)) 24 w' w0.heap.size (fun k => ¬ C1 k) v6 R1))
      case atStart => exact ⟨R.length, s, C, R, Nat.le_refl _, by have := HL.out.2.1; omega, by have := HL.out.2.1; omega, ⟨rfl⟩, ⟨by have := HL.out.1; have := HL.out.2.1; omega⟩, ⟨HL.out.2.2⟩, HS, HU⟩
      case round =>
        clear HS HU
        obtain ⟨f, s1, C1, R1, hf, hkq, hr2, HPP, HQ, HRO, HS, HU⟩ := hrel
        by_cases hc : 1 < R1.length
        · obtain ⟨f, rfl⟩ : ∃ q, f = q + 1 := ⟨f - 1, by omega⟩
          obtain ⟨jq, rfl⟩ : ∃ q, gk = q + 1 := ⟨gk - 1, by omega⟩
          obtain ⟨g6, c6, rfl, hg6, hl6, _⟩ := Kd.R_form HU.out (by omega)
          obtain ⟨h0, hh0⟩ : ∃ h, wr.heap.size = h := ⟨_, rfl⟩
          have HU0 := Aside0.mk (Kd.R_mono (Kd.R_bound HU.out) (ok' := fun k => ¬ C1 k ∧ k < h0) (fun k hk => ⟨hk.1, by rw [← hh0]; exact hk.2.2.1⟩))
          have h00 : w0.heap.size ≤ h0 := by rw [← hh0]; exact HS.out.mv.size
          have hhw : h0 ≤ wr.heap.size := Nat.le_of_eq hh0.symm
          obtain ⟨n6, hn6⟩ : ∃ n, R1.length = n := ⟨_, rfl⟩
          rw [hn6] at hf hkq hr2 hc HU0
          rw [hn6]
          have HN6 := Aside0.mk hn6
          clear hn6 hh0 HU
          go_upto_block 12 with fail
          have hdd : decide ((n6 : Int) > 1) = true := by simp; omega
          rw [hdd]
          clear hdd
          go_cut [19] (fun s19 wx => ∃ (s2 : Asked) (C2 : Nat → Prop) (X : List (List Int)), 2 * X.length ≤ n6 + 1 ∧ Aside0 (pass O s1 R1 [] = (s2, some X)) ∧ Aside0 (X.flatten.length = N ∧ ∀ l ∈ X, RowOk N l) ∧ Aside0 (s2.length ≤ s1.length + N) ∧ Aside0 (St I C0 w0 s2 C2 wx) ∧ Aside0 (Kd.R (Kd.slice 2 (Kd.int .i64)) 24 wx w0.heap.size (fun k => ¬ C2 k) s19 X))
          case first =>
            go_wp2_with fail
            go_loopg [19, 20] n6 (fun kq v19 v20 w' => ∃ (k : Nat) (s2 : Asked) (C2 : Nat → Prop) (X : List (List Int)), v20 = .int .i64 (k : Int) ∧ k ≤ n6 ∧ n6 ≤ k + 2 * kq ∧ 2 * X.length = k ∧ h0 ≤ w'.heap.size ∧ Aside0 (pass O s2 (R1.drop k) X = pass O s1 R1 []) ∧
              Aside0 (s2.length + (R1.drop k).flatten.length ≤ s1.length + N ∧ X.flatten.length + (R1.drop k).flatten.length = N ∧ ∀ l ∈ X, RowOk N l) ∧ Aside0 (St I C0 w0 s2 C2 w') ∧
              Aside0 (Kd.R (Kd.slice 2 (Kd.int .i64)) 24 w' w0.heap.size (fun k => ¬ C2 k ∧ k < h0) (.slice (some ⟨g6, 0, none⟩) n6 c6) R1) ∧ Aside0 (Kd.R (Kd.slice 2 (Kd.int .i64)) 24 w' w0.heap.size (fun k => ¬ C2 k ∧ h0 ≤ k) v19 X))
            case atStart => exact ⟨0, s1, C1, [], by first | rfl | simp, by omega, by omega, rfl, hhw, ⟨rfl⟩, ⟨by have := HRO.out.1; rw [List.drop_zero]; omega, by have := HRO.out.1; rw [List.drop_zero, List.flatten_nil, List.length_nil, Nat.zero_add]; exact this, fun l hl => by cases hl⟩, HS, HU0, ⟨Kd.R_nil _ _ _ _ _⟩⟩
            case round =>
              clear HS HU0 hhw
              obtain ⟨k, s2, C2, X, rfl, hkn, hkk, hX, hhw, HPA, HX, HS, HU, HNX⟩ := hrel
              by_cases hk : k < n6
              · by_cases hk1 : k + 1 = n6
                · obtain ⟨A, hA, hdr⟩ := drop_one (R := R1) (k := k) (by rw [HN6.out]; exact hk1)
                  have hAok := HRO.out.2 A (List.mem_of_getElem? hA)
                  obtain ⟨ga, na, ca, hcell, hrow⟩ := run_at HU.out hA hAok.1
                  rw [hdr] at HPA HX
                  have HDN := Aside0.mk (show pass O s1 R1 [] = (s2, some (X ++ [A])) by rw [← HPA.out, pass_last])
                  have HX1 := Aside0.mk (show (Kd.slice 2 (Kd.int .i64)).M wr w0.heap.size (fun q => ¬ C2 q ∧ q = ga) A [.slice (some ⟨ga, 0, none⟩) na ca] from ⟨_, rfl, Kd.R_of_own (by have h := hrow.own; rw [← hrow.len] at h ⊢; exact h) (fun q hq => by
                    have : ga = q := by simpa [Value.ownBlock] using hq
                    rw [← this]; exact ⟨hrow.off, rfl⟩)⟩)
                  have HX2 := Aside0.mk (Kd.R_mono HNX.out (ok' := fun q => ¬ C2 q) (fun q hq => hq.1))
                  have HX3 := Aside0.mk (show ∀ q, (¬ C2 q ∧ q = ga) → ¬ C2 q ∧ some q ≠ u19.ownBlock from fun q hq => ⟨hq.1, fun e => by
                    have h1 := (HNX.out.1 q e.symm).2
                    have h2 := hrow.lt
                    have h3 := hq.2
                    omega⟩)
                  have HX4 := Aside0.mk (show ∀ q, wr.heap.size ≤ q → ¬ C2 q from fun q hq => HS.out.new hq)
                  have hwz : w0.heap.size ≤ wr.heap.size := HS.out.mv.size
                  have HAL := Aside0.mk hAok
                  clear hA hdr hrow HU HNX hAok
                  go_wp2_with (first | (at_builtin; (refine Kd.R_append (Kd.slice 2 (Kd.int .i64)) (w0 := wr) (W := wr) w0.heap.size ?hgd2 (.tmp 156) (.tmp 161) 62 24 (.slice none 0 0) 24 ?ho2 Try.underlying62 info24' rfl (by decide) (by decide) u19 X A [.slice (some ⟨ga, 0, none⟩) na ca] (fun q => ¬ C2 q) (fun q => ¬ C2 q ∧ q = ga) ?hs2 ?hx2 HX1.out HX3.out HX4.out HX2.out (Below.refl _ _) hwz (by omega) ?hk2; (case hgd2 => rfl); (case ho2 => rfl); (case hs2 => rfl); (case hx2 => rfl); intro v1 w5 hR5 hb5 hg5 hat5)) | fail)
                  have HU5 := Aside0.mk hR5
                  have HS5 := Aside0.mk (HS.out.grown HA.out hg5 (fun q hq => ⟨(HX2.out.1 q hq), (Kd.R_base HX2.out q hq)⟩))
                  clear hR5 hb5 hg5 hat5 HX1 HX2 HX3 HX4 HS
                  go_meet
                  refine ⟨s2, C2, X ++ [A], by rw [List.length_append, List.length_singleton]; omega, HDN, ⟨?_, fun l hl => ?_⟩, ⟨by have := HX.out.1; omega⟩, HS5, HU5⟩
                  · have := HX.out.2.1
                    rw [List.flatten_append, List.length_append]
                    exact this
                  · rcases List.mem_append.1 hl with hl | hl
                    · exact HX.out.2.2 l hl
                    · rw [List.mem_singleton.1 hl]; exact HAL.out
                · obtain ⟨A, B, hA, hB, hdr⟩ := drop_two (R := R1) (k := k) (by rw [HN6.out]; omega)
                  have hAok := HRO.out.2 A (List.mem_of_getElem? hA)
                  have hBok := HRO.out.2 B (List.mem_of_getElem? hB)
                  obtain ⟨ga, na, ca, hca, hra⟩ := run_at HU.out hA hAok.1
                  obtain ⟨gb, nb, cb, hcb, hrb⟩ := run_at HU.out hB hBok.1
                  rw [hdr] at HPA HX
                  have HMG := Aside0.mk (show Mg I C0 w0 h0 (.slice (some ⟨g6, 0, none⟩) n6 c6) R1 u19 X ga na ca A gb nb cb B (.slice none 0 0) [] s2 C2 wr from
                    ⟨HS.out, HU.out, hra, hrb, Kd.R_mono HNX.out (fun q hq => ⟨hq.1, hq.2, by simp [Value.ownBlock]⟩), World.ownsRow_nil _ _ _ _, fun q hq => by simp [Value.ownBlock] at hq⟩)
                  have hna : 1 ≤ na := by rw [← hra.len]; exact hAok.1
                  have hnb : 1 ≤ nb := by rw [← hrb.len]; exact hBok.1
                  have hnac : na ≤ ca := hown_cap hra.own
                  have hnbc : nb ≤ cb := hown_cap hrb.own
                  have HLA := Aside0.mk hra.len
                  have HLB := Aside0.mk hrb.len
                  have HAL := Aside0.mk hAok
                  have HBL := Aside0.mk hBok
                  have hnab : na + nb ≤ 2000 := by
                    have h1 := HX.out.2.1
                    rw [List.flatten_cons, List.flatten_cons, List.length_append, List.length_append, HLA.out, HLB.out] at h1
                    omega
                  have hk2 : ((k : Int) + 1 == (n6 : Int)) = false := beq_eq_false_iff_ne.mpr (by omega)
                  have hk3 : k + 1 < n6 := by omega
                  clear hA hB hdr hra hrb HU HNX HS hAok hBok hk1
                  go_upto_region 43 with fail
                  go_quiet (fail)
                  go_upto_block 14 with fail
                  obtain ⟨w1, hw1⟩ : ∃ w1, wr.drewN nq = w1 := ⟨_, rfl⟩
                  have HMG1 := Aside0.mk (HMG.out.drewN HA.out nq)
                  have hhw1 : h0 ≤ (wr.drewN nq).heap.size := hhw
                  rw [hw1] at HMG1 hhw1
                  rw [hw1]
                  clear hw1 HMG hhw hca hcb
                  go_cut [21, 22, 23] (fun s21 s22 s23 wx => ∃ (ad1 ad2 : Addr) (ma ka mb kb pa pb : Nat) (zs : List Int) (s3 : Asked) (C3 : Nat → Prop), s21 = .slice (some ad1) ma ka ∧ s22 = .slice (some ad2) mb kb ∧ pa + ma = na ∧ pb + mb = nb ∧ zs.length = pa + pb ∧ h0 ≤ wx.heap.size ∧ Aside0 (0 < ma → ad1 = ⟨ga, pa, none⟩) ∧ Aside0 (0 < mb → ad2 = ⟨gb, pb, none⟩) ∧
                    Aside0 (merge O (A.length + B.length) s2 A B [] = (s3, some (zs ++ A.drop pa ++ B.drop pb))) ∧ Aside0 (s3.length ≤ s2.length + (na + nb)) ∧ Aside0 (∀ x ∈ zs, 0 ≤ x ∧ x < (N : Int)) ∧ Aside0 (Mg I C0 w0 h0 (.slice (some ⟨g6, 0, none⟩) n6 c6) R1 u19 X ga na ca A gb nb cb B s23 zs s3 C3 wx))
                  case first =>
                    go_wp2_with fail
                    go_loopg [21, 22, 23] (na + nb) (fun kq v21 v22 v23 w' => ∃ (ad1 ad2 : Addr) (ma ka mb kb pa pb f2 : Nat) (zs : List Int) (s3 : Asked) (C3 : Nat → Prop), v21 = .slice (some ad1) ma ka ∧ v22 = .slice (some ad2) mb kb ∧ pa + ma = na ∧ pb + mb = nb ∧ ma ≤ ka ∧ mb ≤ kb ∧ zs.length = pa + pb ∧ ma + mb ≤ kq ∧ ma + mb ≤ f2 ∧ h0 ≤ w'.heap.size ∧
                      Aside0 (0 < ma → ad1 = ⟨ga, pa, none⟩) ∧ Aside0 (0 < mb → ad2 = ⟨gb, pb, none⟩) ∧ Aside0 (merge O f2 s3 (A.drop pa) (B.drop pb) zs = merge O (A.length + B.length) s2 A B []) ∧ Aside0 (s3.length + ma + mb ≤ s2.length + (na + nb)) ∧ Aside0 (∀ x ∈ zs, 0 ≤ x ∧ x < (N : Int)) ∧ Aside0 (Mg I C0 w0 h0 (.slice (some ⟨g6, 0, none⟩) n6 c6) R1 u19 X ga na ca A gb nb cb B v23 zs s3 C3 w'))
                    case atStart => exact ⟨⟨ga, 0, none⟩, ⟨gb, 0, none⟩, na, ca, nb, cb, 0, 0, na + nb, [], s2, C2, by first | rfl | simp, by first | rfl | simp, by omega, by omega, hnac, hnbc, rfl, by omega, by omega, hhw1, ⟨fun _ => rfl⟩, ⟨fun _ => rfl⟩, ⟨by rw [List.drop_zero, List.drop_zero, HLA.out, HLB.out]⟩, ⟨by omega⟩, ⟨fun x hx => by cases hx⟩, HMG1⟩
                    case round =>
                      clear HMG1 hhw1
                      obtain ⟨ad1, ad2, ma, ka, mb, kb, pa, pb, f2, zs, s3, C3, rfl, rfl, hpa, hpb, hka, hkb, hzl, hkq, hf2, hhw, HD1, HD2, HMM, HQ3, HZR, HMG⟩ := hrel
                      by_cases hab : 0 < ma ∧ 0 < mb
                      · obtain ⟨hab1, hab2⟩ := hab
                        obtain rfl := HD1.out hab1
                        obtain rfl := HD2.out hab2
                        obtain ⟨ma, rfl⟩ : ∃ q, ma = q + 1 := ⟨ma - 1, by omega⟩
                        obtain ⟨mb, rfl⟩ : ∃ q, mb = q + 1 := ⟨mb - 1, by omega⟩
                        obtain ⟨f2, rfl⟩ : ∃ q, f2 = q + 1 := ⟨f2 - 1, by omega⟩
                        obtain ⟨jq2, rfl⟩ : ∃ q, gk = q + 1 := ⟨gk - 1, by omega⟩
                        have hpA : pa < A.length := by rw [HLA.out]; omega
                        have hpB : pb < B.length := by rw [HLB.out]; omega
                        obtain ⟨x, hx⟩ : ∃ x, A[pa] = x := ⟨_, rfl⟩
                        obtain ⟨y, hy⟩ : ∃ y, B[pb] = y := ⟨_, rfl⟩
                        have hxr := HAL.out.2 _ (List.getElem_mem hpA)
                        have hyr := HBL.out.2 _ (List.getElem_mem hpB)
                        have hdA := List.drop_eq_getElem_cons hpA
                        have hdB := List.drop_eq_getElem_cons hpB
                        have hxo := List.getElem?_eq_getElem hpA
                        have hyo := List.getElem?_eq_getElem hpB
                        rw [hx] at hxr hdA hxo
                        rw [hy] at hyr hdB hyo
                        have hdA0 := Aside0.mk hdA
                        have hdB0 := Aside0.mk hdB
                        rw [hdA, hdB] at HMM
                        have HXO := Aside0.mk hxo
                        have HYO := Aside0.mk hyo
                        have HXR := Aside0.mk hxr
                        have HYR := Aside0.mk hyr
                        have hxc := HMG.out.a.cell hxo
                        have hyc := HMG.out.b.cell hyo
                        have hle : s3.length ≤ 10000000 := by have := HQ3.out; have := HX.out.1; have := HQ.out; omega
                        have CALL := Aside0.mk (HA.out.ask s3 C3 wr.drew y x (show I s3 C3 wr.drew from (HMG.out.drewN HA.out 1).st.inv) hyr.1 hyr.2 hxr.1 hxr.2 hle)
                        clear hx hy hxr hyr hdA hdB hxo hyo hle hpA hpB hab1 hab2
                        go_upto_region 46 with fail
                        go_cut [24, 25] (fun s24 s25 wx => ∃ C4, s24 = .bool ((O s3.length y x).getD false) ∧ s25 = .bool (O s3.length y x).isSome ∧ h0 ≤ wx.heap.size ∧ Aside0 (Mg I C0 w0 h0 (.slice (some ⟨g6, 0, none⟩) n6 c6) R1 u19 X ga na ca A gb nb cb B u23 zs (s3 ++ [(y, x)]) C4 wx))
                        case first =>
                          have HH := Aside0.mk hhw
                          clear hhw
                          go_region_with (with_reducible (refine Calls.mono CALL.out ?_; rintro e w' ⟨rfl, C4, hI4, hm4⟩))
                          all_goals go_wp2
                          all_goals go_meet
                          all_goals exact ⟨C4, rfl, rfl, Nat.le_trans HH.out hm4.size, ⟨(HMG.out.drewN HA.out 1).asked HA.out hI4 hm4⟩⟩
                        case rest =>
                          clear HMG hhw hxc hyc CALL
                          obtain ⟨C4, rfl, rfl, hhw, HMG2⟩ := hcut
                          have HZL := Aside0.mk (show zs.length = pa + pb ∧ pa + pb ≤ 2000 from ⟨hzl, by omega⟩)
                          clear hzl
                          cases hr : O s3.length y x with
                          | none =>
                            have HEND := Aside0.mk (sort_none HRU.out (by rw [← HPP.out, passes_none (by rw [HN6.out]; exact hc) (by rw [← HPA.out, pass_none (by rw [← HMM.out, merge_none hr])])]))
                            clear hr HMM
                            go_wp2
                            go_ret2
                            rw [HEND.out]
                            exact ⟨_, rfl, C4, HMG2.out.st.inv, HMG2.out.st.mv, Kd.R_nil _ _ _ _ _⟩
                          | some b =>
                            have HX2 := Aside0.mk (merge_on (f := f2) (a := A.drop (pa + 1)) (b := B.drop (pb + 1)) (out := zs) b hr)
                            clear hr
                            cases b with
                            | true =>
                              have HO3 := Aside0.mk (HMG2.out.alloc HA.out (.cells #[.int .i64 y] 2)).own
                              have hwz : h0 ≤ (wc.alloc (.cells #[.int .i64 y] 2)).heap.size := by simp; omega
                              have hcc2 := HMG2.out.b.cell HYO.out
                              have HZR2 := Aside0.mk (show ∀ q ∈ zs ++ [y], 0 ≤ q ∧ q < (N : Int) from fun q hq => by
                                rcases List.mem_append.1 hq with hq | hq
                                · exact HZR.out q hq
                                · rw [List.mem_singleton.1 hq]; exact HYR.out)
                              go_wp2_with (first | (at_builtin; refine wpList_append_own_at _ rfl _ _ 24 rfl h0 2 i0 (.int .i64 0) 1 8 Try.underlying24 hi0 hz0 hz1 hz2 rfl (by decide) u23 zs.length (zs.map (Value.int .i64)) rfl HO3.out ⟨wc.heap.size, 0, none⟩ 1 1 [.int .i64 y] rfl rfl (cell_one_new _ _ _) (by intro u hu; simp at hu; subst hu; rfl) (by have := HZL.out; unfold maxLen; omega) (by have := HZL.out; omega) hwz ?_; intro v' w5 hown hgrow hnil hat) | fail)
                              · have HMG5 := Aside0.mk ((HMG2.out.alloc HA.out (.cells #[.int .i64 y] 2)).pushed HA.out h00 [y] v' hown hgrow (hat.imp id (fun h => ⟨_, h, Nat.le_refl _⟩)) hwz)
                                have hhw2 : h0 ≤ w5.heap.size := Nat.le_trans hwz hgrow.size
                                clear hown hgrow hnil hat HMG2 HO3 hwz hcc2
                                go_roundg jq2
                                case measure => omega
                                case rel => exact ⟨⟨ga, pa, none⟩, ⟨gb, pb, none⟩, ma + 1, ka, mb, 0, pa, pb + 1, f2, zs ++ [y], _, C4, rfl, rfl, by omega, by omega, by omega, by omega, by rw [List.length_append, List.length_singleton, HZL.out.1]; omega, by omega, by omega, hhw2, ⟨fun _ => rfl⟩, ⟨fun hm => by omega⟩, ⟨by rw [← HMM.out, HX2.out, if_pos trivial]; rw [hdA0.out]⟩, ⟨by have := HQ3.out; rw [List.length_append, List.length_singleton]; omega⟩, HZR2, HMG5⟩
                              · have HMG5 := Aside0.mk ((HMG2.out.alloc HA.out (.cells #[.int .i64 y] 2)).pushed HA.out h00 [y] v' hown hgrow (hat.imp id (fun h => ⟨_, h, Nat.le_refl _⟩)) hwz)
                                have hhw2 : h0 ≤ w5.heap.size := Nat.le_trans hwz hgrow.size
                                clear hown hgrow hnil hat HMG2 HO3 hwz hcc2
                                go_roundg jq2
                                case measure => omega
                                case rel => exact ⟨⟨ga, pa, none⟩, ⟨gb, pb + 1, none⟩, ma + 1, ka, mb, kb - 1, pa, pb + 1, f2, zs ++ [y], _, C4, rfl, rfl, by omega, by omega, by omega, by omega, by rw [List.length_append, List.length_singleton, HZL.out.1]; omega, by omega, by omega, hhw2, ⟨fun _ => rfl⟩, ⟨fun _ => rfl⟩, ⟨by rw [← HMM.out, HX2.out, if_pos trivial]; rw [hdA0.out]⟩, ⟨by have := HQ3.out; rw [List.length_append, List.length_singleton]; omega⟩, HZR2, HMG5⟩
                            | false =>
                              have HO3 := Aside0.mk (HMG2.out.alloc HA.out (.cells #[.int .i64 x] 2)).own
                              have hwz : h0 ≤ (wc.alloc (.cells #[.int .i64 x] 2)).heap.size := by simp; omega
                              have hcc2 := HMG2.out.a.cell HXO.out
                              have HZR2 := Aside0.mk (show ∀ q ∈ zs ++ [x], 0 ≤ q ∧ q < (N : Int) from fun q hq => by
                                rcases List.mem_append.1 hq with hq | hq
                                · exact HZR.out q hq
                                · rw [List.mem_singleton.1 hq]; exact HXR.out)
                              go_wp2_with (first | (at_builtin; refine wpList_append_own_at _ rfl _ _ 24 rfl h0 2 i0 (.int .i64 0) 1 8 Try.underlying24 hi0 hz0 hz1 hz2 rfl (by decide) u23 zs.length (zs.map (Value.int .i64)) rfl HO3.out ⟨wc.heap.size, 0, none⟩ 1 1 [.int .i64 x] rfl rfl (cell_one_new _ _ _) (by intro u hu; simp at hu; subst hu; rfl) (by have := HZL.out; unfold maxLen; omega) (by have := HZL.out; omega) hwz ?_; intro v' w5 hown hgrow hnil hat) | fail)
                              · have HMG5 := Aside0.mk ((HMG2.out.alloc HA.out (.cells #[.int .i64 x] 2)).pushed HA.out h00 [x] v' hown hgrow (hat.imp id (fun h => ⟨_, h, Nat.le_refl _⟩)) hwz)
                                have hhw2 : h0 ≤ w5.heap.size := Nat.le_trans hwz hgrow.size
                                clear hown hgrow hnil hat HMG2 HO3 hwz hcc2
                                go_roundg jq2
                                case measure => omega
                                case rel => exact ⟨⟨ga, pa, none⟩, ⟨gb, pb, none⟩, ma, 0, mb + 1, kb, pa + 1, pb, f2, zs ++ [x], _, C4, rfl, rfl, by omega, by omega, by omega, by omega, by rw [List.length_append, List.length_singleton, HZL.out.1]; omega, by omega, by omega, hhw2, ⟨fun hm => by omega⟩, ⟨fun _ => rfl⟩, ⟨by rw [← HMM.out, HX2.out, if_neg (by simp)]; rw [hdB0.out]⟩, ⟨by have := HQ3.out; rw [List.length_append, List.length_singleton]; omega⟩, HZR2, HMG5⟩
                              · have HMG5 := Aside0.mk ((HMG2.out.alloc HA.out (.cells #[.int .i64 x] 2)).pushed HA.out h00 [x] v' hown hgrow (hat.imp id (fun h => ⟨_, h, Nat.le_refl _⟩)) hwz)
                                have hhw2 : h0 ≤ w5.heap.size := Nat.le_trans hwz hgrow.size
                                clear hown hgrow hnil hat HMG2 HO3 hwz hcc2
                                go_roundg jq2
                                case measure => omega
                                case rel => exact ⟨⟨ga, pa + 1, none⟩, ⟨gb, pb, none⟩, ma, ka - 1, mb + 1, kb, pa + 1, pb, f2, zs ++ [x], _, C4, rfl, rfl, by omega, by omega, by omega, by omega, by rw [List.length_append, List.length_singleton, HZL.out.1]; omega, by omega, by omega, hhw2, ⟨fun _ => rfl⟩, ⟨fun _ => rfl⟩, ⟨by rw [← HMM.out, HX2.out, if_neg (by simp)]; rw [hdB0.out]⟩, ⟨by have := HQ3.out; rw [List.length_append, List.length_singleton]; omega⟩, HZR2, HMG5⟩
                      · have HX1 := Aside0.mk (show merge O (A.length + B.length) s2 A B [] = (s3, some (zs ++ A.drop pa ++ B.drop pb)) by
                          rw [← HMM.out]
                          refine merge_stop ?_
                          by_cases hm : ma = 0
                          · exact .inl (List.drop_eq_nil_of_le (by rw [HLA.out]; omega))
                          · exact .inr (List.drop_eq_nil_of_le (by rw [HLB.out]; omega)))
                        have HQ4 := Aside0.mk (show s3.length ≤ s2.length + (na + nb) by have := HQ3.out; omega)
                        by_cases hm : ma = 0
                        · subst hm
                          clear hab
                          go_wp2_with fail
                          go_meet
                          exact ⟨ad1, ad2, 0, ka, mb, kb, pa, pb, zs, s3, C3, rfl, rfl, hpa, hpb, hzl, hhw, HD1, HD2, HX1, HQ4, HZR, HMG⟩
                        · have hm2 : mb = 0 := by omega
                          subst hm2
                          obtain ⟨ma, rfl⟩ : ∃ q, ma = q + 1 := ⟨ma - 1, by omega⟩
                          clear hab hm
                          go_wp2_with fail
                          go_meet
                          exact ⟨ad1, ad2, ma + 1, ka, 0, kb, pa, pb, zs, s3, C3, rfl, rfl, hpa, hpb, hzl, hhw, HD1, HD2, HX1, HQ4, HZR, HMG⟩
                  case rest =>
                    clear HMG1 hhw1
                    obtain ⟨ad1, ad2, ma, ka, mb, kb, pa, pb, zs, s3, C3, rfl, rfl, hpa, hpb, hzl, hhw, HD1, HD2, HMM, HQ3, HZR, HMG⟩ := hcut
                    obtain ⟨jq3, rfl⟩ : ∃ q, gk = q + 1 := ⟨gk - 1, by omega⟩
                    have hn1 := Aside0.mk (rest_news HMG.out.a hpa HD1.out)
                    obtain ⟨A1, hA1⟩ : ∃ L, A.drop pa = L := ⟨_, rfl⟩
                    obtain ⟨B1, hB1⟩ : ∃ L, B.drop pb = L := ⟨_, rfl⟩
                    have HA1 := Aside0.mk (show (∀ x ∈ A1, 0 ≤ x ∧ x < (N : Int)) ∧ A1.length = ma from ⟨fun x hx => HAL.out.2 x (List.mem_of_mem_drop (by rw [hA1]; exact hx)), by rw [← hA1, List.length_drop, HLA.out]; omega⟩)
                    have HB1 := Aside0.mk (show (∀ x ∈ B1, 0 ≤ x ∧ x < (N : Int)) ∧ B1.length = mb from ⟨fun x hx => HBL.out.2 x (List.mem_of_mem_drop (by rw [hB1]; exact hx)), by rw [← hB1, List.length_drop, HLB.out]; omega⟩)
                    have HB2 := Aside0.mk hB1
                    rw [hA1] at hn1
                    rw [hA1, hB1] at HMM
                    clear hA1 hB1
                    have HZL := Aside0.mk (show zs.length = pa + pb ∧ pa + pb ≤ 2000 ∧ ma ≤ 2000 ∧ mb ≤ 2000 ∧ zs.length + ma + mb = na + nb from ⟨hzl, by omega, by omega, by omega, by omega⟩)
                    clear hzl
                    have hpb2 := Aside0.mk hpb
                    go_wp2_with (first
                      | (at_builtin; refine wpList_append_own_at _ rfl _ _ 24 rfl h0 2 i0 (.int .i64 0) 1 8 Try.underlying24 hi0 hz0 hz1 hz2 rfl (by decide) u23 zs.length (zs.map (Value.int .i64)) rfl HMG.out.own ad1 ma ka (A1.map (Value.int .i64)) rfl hn1.out.1 hn1.out.2.1 hn1.out.2.2 (by have := HZL.out; unfold maxLen; omega) (by have := HZL.out; omega) hhw ?_; intro v1 w5 hown hgrow hnil hat;
                          have HMG5 := Aside0.mk (HMG.out.pushed HA.out h00 A1 v1 (by rw [HA1.out.2]; exact hown) hgrow (hat.imp id (fun h => ⟨_, h, Nat.le_refl _⟩)) hhw);
                          have hhw5 : h0 ≤ w5.heap.size := Nat.le_trans hhw hgrow.size;
                          have HZ5 := Aside0.mk (show (zs ++ A1).length = zs.length + A1.length from List.length_append);
                          have hn5 := Aside0.mk (rest_news HMG5.out.b hpb2.out HD2.out);
                          rw [HB2.out] at hn5;
                          obtain ⟨zs5, hzs5⟩ : ∃ z, zs ++ A1 = z := ⟨_, rfl⟩;
                          rw [hzs5] at HMG5 HZ5;
                          have HZA := Aside0.mk hzs5;
                          clear hzs5 hown hgrow hnil hat HMG hn1)
                      | (at_builtin; refine wpList_append_own_at _ rfl _ _ 24 rfl h0 2 i0 (.int .i64 0) 1 8 Try.underlying24 hi0 hz0 hz1 hz2 rfl (by decide) v1 zs5.length (zs5.map (Value.int .i64)) rfl HMG5.out.own ad2 mb kb (B1.map (Value.int .i64)) rfl hn5.out.1 hn5.out.2.1 hn5.out.2.2 (by have h1 := HZL.out; have h2 := HZ5.out; have h3 := HA1.out.2; unfold maxLen; omega) (by have h1 := HZL.out; have h2 := HZ5.out; have h3 := HA1.out.2; omega) hhw5 ?_; intro v2 w6 hown hgrow hnil hat;
                          have HMG6 := Aside0.mk (HMG5.out.pushed HA.out h00 B1 v2 (by rw [HB1.out.2]; exact hown) hgrow (hat.imp id (fun h => ⟨_, h, Nat.le_refl _⟩)) hhw5);
                          have hhw6 : h0 ≤ w6.heap.size := Nat.le_trans hhw5 hgrow.size;
                          have HZ6 := Aside0.mk (show (zs5 ++ B1).length = zs5.length + B1.length from List.length_append);
                          obtain ⟨zs6, hzs6⟩ : ∃ z, zs5 ++ B1 = z := ⟨_, rfl⟩;
                          rw [hzs6] at HMG6 HZ6;
                          have HZB := Aside0.mk hzs6;
                          clear hzs6 hown hgrow hnil hat HMG5 hn5;
                          obtain ⟨a8, c8, n8, rfl⟩ := ow_shape HMG6.out.own;
                          have HX1 := Aside0.mk (keep_run (ow_down HMG6.out.own h00) HMG6.out.off);
                          have HX2 := Aside0.mk (Kd.R_mono HMG6.out.next (ok' := fun k => ¬ C3 k ∧ h0 ≤ k) (fun k hk => ⟨hk.1, hk.2.1⟩));
                          have HX3 := Aside0.mk (show ∀ k, (¬ C3 k ∧ (Value.slice a8 n8 c8).ownBlock = some k) → (¬ C3 k ∧ h0 ≤ k) ∧ some k ≠ u19.ownBlock from fun k hk => ⟨⟨hk.1, (HMG6.out.own.lt k hk.2).1⟩, fun e => (HMG6.out.next.1 k e.symm).2.2 hk.2.symm⟩);
                          have HX4 := Aside0.mk (show ∀ k, w6.heap.size ≤ k → (¬ C3 k ∧ h0 ≤ k) from fun k hk => ⟨HMG6.out.st.new hk, Nat.le_trans hhw6 hk⟩);
                          have hwz : w0.heap.size ≤ w6.heap.size := Nat.le_trans h00 hhw6)
                      | (at_builtin; (refine Kd.R_append (Kd.slice 2 (Kd.int .i64)) (w0 := w6) (W := w6) w0.heap.size ?hgd3 (.tmp 210) (.tmp 216) 62 24 (.slice none 0 0) 24 ?ho3 Try.underlying62 info24' rfl (by decide) (by decide) u19 X zs6 [.slice a8 n8 c8] (fun k => ¬ C3 k ∧ h0 ≤ k) (fun k => ¬ C3 k ∧ (Value.slice a8 n8 c8).ownBlock = some k) ?hs3 ?hx3 HX1.out HX3.out HX4.out HX2.out (Below.refl _ _) hwz (by omega) ?hk3; (case hgd3 => rfl); (case ho3 => rfl); (case hs3 => rfl); (case hx3 => rfl); intro v7 w7 hR7 hb7 hg7 hat7))
                      | fail)
                    have HU7 := Aside0.mk (Kd.R_step HMG6.out.rows (w1 := w7) (fun k hk hlt => hg7.block k hlt (fun e => by
                      have h1 := (HMG6.out.next.1 k e.symm).2.1
                      have h2 := hk.2
                      omega)))
                    have HN7 := Aside0.mk hR7
                    have HS7 := Aside0.mk (HMG6.out.st.grown HA.out hg7 (fun q hq => ⟨(HX2.out.1 q hq).1, Kd.R_base HX2.out q hq⟩))
                    have hhw7 : h0 ≤ w7.heap.size := Nat.le_trans hhw6 hg7.size
                    clear hR7 hb7 hg7 hat7 HX1 HX2 HX3 HX4 HMG6
                    have HM7 := Aside0.mk (show pass O s3 (R1.drop (k + 2)) (X ++ [zs6]) = pass O s1 R1 [] by
                      rw [← HPA.out, pass_on HMM.out, HZA.out, HZB.out])
                    have hX7 : 2 * (X ++ [zs6]).length = k + 2 := by rw [List.length_append, List.length_singleton]; omega
                    have HZ7 := Aside0.mk (show zs6.length = na + nb ∧ RowOk N zs6 by
                      have h1 := HZL.out
                      have h2 := HZ5.out
                      have h3 := HA1.out.2
                      have h4 := HZ6.out
                      have h5 := HB1.out.2
                      refine ⟨by omega, by omega, fun x hx => ?_⟩
                      rw [← HZB.out, ← HZA.out] at hx
                      rcases List.mem_append.1 hx with hx | hx
                      · rcases List.mem_append.1 hx with hx | hx
                        · exact HZR.out x hx
                        · exact HA1.out.1 x hx
                      · exact HB1.out.1 x hx)
                    have HX7 := Aside0.mk (show s3.length + (R1.drop (k + 2)).flatten.length ≤ s1.length + N ∧ (X ++ [zs6]).flatten.length + (R1.drop (k + 2)).flatten.length = N ∧ ∀ l ∈ X ++ [zs6], RowOk N l by
                      obtain ⟨h1, h2, h3⟩ := HX.out
                      have h4 := HZ7.out.1
                      have h5 := HQ3.out
                      have h6 := HLA.out
                      have h7 := HLB.out
                      rw [List.flatten_cons, List.flatten_cons, List.length_append, List.length_append] at h1 h2
                      refine ⟨by omega, ?_, fun l hl => ?_⟩
                      · rw [List.flatten_append, List.length_append, List.flatten_cons, List.flatten_nil, List.append_nil]
                        omega
                      · rcases List.mem_append.1 hl with hl | hl
                        · exact h3 l hl
                        · rw [List.mem_singleton.1 hl]; exact HZ7.out.2)
                    go_roundg jq3
                    case measure => omega
                    case rel => exact ⟨k + 2, s3, C3, X ++ [zs6], by first | rfl | simp, by omega, by omega, hX7, hhw7, HM7, HX7, HS7, HU7, HN7⟩
              · have HX1 := Aside0.mk (show pass O s1 R1 [] = (s2, some X) by
                  rw [← HPA.out, List.drop_eq_nil_of_le (by rw [HN6.out]; omega), pass_end])
                have hdn : R1.drop k = [] := List.drop_eq_nil_of_le (by rw [HN6.out]; omega)
                rw [hdn] at HX
                go_wp2_with fail
                go_meet
                exact ⟨s2, C2, X, by omega, HX1, ⟨by have := HX.out.2.1; simpa using this, HX.out.2.2⟩, ⟨by have := HX.out.1; simp at this; omega⟩, HS, ⟨Kd.R_mono HNX.out (fun k hk => hk.1)⟩⟩
          case rest =>
            obtain ⟨s2, C2, X, hX, HPA, HXO, HQ2, HS2, HNX⟩ := hcut
            have HPP2 := Aside0.mk (show passes O f s2 X = passes O R.length s R by rw [← HPP.out, passes_on (by rw [HN6.out]; omega) HPA.out])
            go_wp2_with fail
            go_roundg jq
            case measure => omega
            case rel => exact ⟨f, s2, C2, X, by omega, by omega, by omega, HPP2, ⟨by have := HQ.out; have := HQ2.out; have := HN6.out; omega⟩, HXO, HS2, HNX⟩
        · have HX := Aside0.mk (show passes O R.length s R = (s1, some R1) by rw [← HPP.out]; exact passes_stop hc)
          have hcc : ¬ (R1.length : Int) > 1 := by omega
          obtain ⟨A6, c6, rfl⟩ := Kd.R_slice HU.out
          go_wp2_with fail
          go_meet
          exact ⟨s1, C1, R1, by omega, HX, HRO, HS, HU⟩
    case rest =>
      clear HS HU
      obtain ⟨s1, C1, R1, hr1, HPP, HRO, HS, HU⟩ := hcut
      have HEND := Aside0.mk (sort_of HRU.out HPP.out)
      match R1, hr1 with
      | [], _ =>
        obtain ⟨A6, c6, rfl⟩ := Kd.R_slice HU.out
        have HIS := Aside0.mk (show (sort O (N : Int)) = (s1, some []) from HEND.out)
        clear HEND HPP HRO
        go_wp2_with fail
        go_ret2
        rw [HIS.out]
        exact ⟨_, C1, rfl, HS.out.inv, HS.out.mv, Kd.R_nil _ _ _ _ _⟩
      | [L], _ =>
        have HIS := Aside0.mk (show (sort O (N : Int)) = (s1, some L) from HEND.out)
        have hLok := HRO.out.2 L (List.mem_singleton.2 rfl)
        obtain ⟨g6, c6, rfl, hg6, hl6, _⟩ := Kd.R_form HU.out (by simp)
        have HUU := Kd.R_mono (Kd.R_bound HU.out) (ok' := fun k => ¬ C1 k ∧ k < wc.heap.size) (fun k hk => ⟨hk.1, hk.2.2.1⟩)
        obtain ⟨ga, na, ca, hcell, hrow⟩ := run_at HUU (k := 0) (L := L) rfl hLok.1
        have HRES := Aside0.mk (show Kd.R (Kd.int .i64) 2 wc w0.heap.size (fun q => ¬ C1 q) (.slice (some ⟨ga, 0, none⟩) na ca) L from Kd.R_of_own (by have h := hrow.own; rw [← hrow.len] at h ⊢; exact h) (fun q hq => by
          have : ga = q := by simpa [Value.ownBlock] using hq
          rw [← this]; exact hrow.off))
        clear hrow HUU hLok HEND HPP HRO
        go_wp2_with fail
        go_ret2
        rw [HIS.out]
        exact ⟨_, C1, rfl, HS.out.inv, HS.out.mv, HRES.out⟩

end Go.Proofs.Ytdibbgldclgokaa.PS
