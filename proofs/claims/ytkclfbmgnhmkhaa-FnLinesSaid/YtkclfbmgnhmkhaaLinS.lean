/- What the lines of classes hold: the bases, and the bases' lines, in their order. Plain law; no condition beyond those of the theorems. -/
import Derived.Test.YtkclfbmgnhmkhaaLinP
namespace Go.Proofs.Ytkclfbmgnhmkhaa.PC
open Go.RowKit
set_option linter.unusedVariables false
set_option linter.unusedSimpArgs false

theorem strip_back {x : Int} {L t : List Int} (h : (strip x L).Sublist t) : L.Sublist (x :: t) := by
  cases L with
  | nil => exact List.nil_sublist _
  | cons y T =>
    by_cases e : y = x
    · rw [strip, if_pos e] at h
      rw [e]
      exact h.cons_cons x
    · rw [strip, if_neg e] at h
      exact h.cons x
theorem merge_sub : ∀ (k : Nat) (LS : List (List Int)) (l r : List Int), mergeM k LS l = some r → r ≠ [] → ∃ t, r = l ++ t ∧ ∀ L ∈ LS, L.Sublist t
  | 0, _, _, _, h, _ => by simp [mergeM] at h
  | k + 1, LS, l, r, h, hr => by
    rw [mergeM] at h
    cases e : heads LS LS with
    | some x =>
      rw [e] at h
      obtain ⟨t, h1, h2⟩ := merge_sub k _ _ _ h hr
      refine ⟨x :: t, by rw [h1, List.append_assoc]; rfl, fun L hL => strip_back (h2 _ (List.mem_map.2 ⟨L, hL, rfl⟩))⟩
    | none =>
      rw [e] at h
      by_cases e2 : LS.all (fun L => L.isEmpty) = true
      · simp only [if_pos e2] at h
        obtain rfl := Option.some.inj h
        refine ⟨[], by simp, fun L hL => ?_⟩
        have := List.all_eq_true.1 e2 L hL
        rw [List.isEmpty_iff] at this
        rw [this]
        exact List.nil_sublist _
      · simp only [if_neg e2] at h
        exact absurd (Option.some.inj h).symm hr
theorem oneLine_sub {out : List (List Int)} {i : Nat} {bs r : List Int} (h : oneLine out i bs = some r) (hr : r ≠ []) : ∃ t, r = (i : Int) :: t ∧ bs.Sublist t ∧ ∀ b ∈ bs, (out.getD b.toNat []).Sublist t := by
  unfold oneLine at h
  split at h
  · exact absurd (Option.some.inj h).symm hr
  · obtain ⟨t, h1, h2⟩ := merge_sub _ _ _ _ h hr
    exact ⟨t, h1, h2 bs (List.mem_append_right _ (List.mem_singleton.2 rfl)), fun b hb => h2 _ (List.mem_append_left _ (List.mem_map.2 ⟨b, hb, rfl⟩))⟩
theorem lines_take : ∀ (l : List S41) (i : Nat) (out r : List (List Int)), linesFrom l i out = some r → out.length = i → r.take i = out ∧ r.length = i + l.length
  | [], i, out, r, h, ho => by
    rw [linesFrom] at h
    obtain rfl := Option.some.inj h
    exact ⟨by rw [← ho, List.take_length], by simp [ho]⟩
  | c :: t, i, out, r, h, ho => by
    rw [linesFrom] at h
    obtain ⟨L, h1, h2⟩ := Option.bind_eq_some_iff.1 h
    obtain ⟨h3, h4⟩ := lines_take t (i + 1) (out ++ [L]) r h2 (by rw [List.length_append, ho]; rfl)
    refine ⟨?_, by rw [h4, List.length_cons]; omega⟩
    have h5 := congrArg (List.take i) h3
    rw [List.take_take, Nat.min_eq_left (by omega), List.take_append_of_le_length (by omega), ← ho, List.take_length] at h5
    rw [← ho]
    exact h5
theorem lines_at : ∀ (l : List S41) (i : Nat) (out r : List (List Int)), linesFrom l i out = some r → out.length = i → ∀ (j : Nat) (hj : j < l.length), oneLine (r.take (i + j)) (i + j) l[j].f0 = some (r.getD (i + j) [])
  | [], i, out, r, h, ho, j, hj => by simp at hj
  | c :: t, i, out, r, h, ho, j, hj => by
    obtain ⟨h5, _⟩ := lines_take _ _ _ _ h ho
    rw [linesFrom] at h
    obtain ⟨L, h1, h2⟩ := Option.bind_eq_some_iff.1 h
    have ho2 : (out ++ [L]).length = i + 1 := by rw [List.length_append, ho]; rfl
    cases j with
    | zero =>
      obtain ⟨h3, h4⟩ := lines_take t (i + 1) (out ++ [L]) r h2 ho2
      have h6 : r.getD i [] = L := by
        have h7 : (r.take (i + 1))[i]? = some L := by rw [h3, List.getElem?_append_right (by omega), ho, Nat.sub_self]; rfl
        rw [List.getElem?_take, if_pos (by omega)] at h7
        rw [List.getD_eq_getElem?_getD, h7]
        rfl
      rw [Nat.add_zero, h5, h6]
      exact h1
    | succ j =>
      have h3 := lines_at t (i + 1) (out ++ [L]) r h2 ho2 j (by simpa using hj)
      rw [show i + (j + 1) = i + 1 + j by omega]
      exact h3
theorem getD_take (r : List (List Int)) (i b : Nat) (h : b < i) : (r.take i).getD b [] = r.getD b [] := by
  rw [List.getD_eq_getElem?_getD, List.getD_eq_getElem?_getD, List.getElem?_take, if_pos h]
/-- A class that has a line: its line begins with it; its bases, and its bases' lines, stand in it in their order. -/
theorem line_like (l : List S41) (r : List (List Int)) (h : impl_ylines.f l = some r) (i : Nat) (hi : i < l.length) (hne : r.getD i [] ≠ []) :
    ∃ t, r.getD i [] = (i : Int) :: t ∧ l[i].f0.Sublist (r.getD i []) ∧ ∀ b ∈ l[i].f0, (r.getD b.toNat []).Sublist (r.getD i []) := by
  unfold impl_ylines.f at h
  split at h
  case isFalse => simp at h
  rename_i hok
  have h1 := lines_at l 0 [] r h rfl i hi
  rw [Nat.zero_add] at h1
  obtain ⟨t, h2, h3, h4⟩ := oneLine_sub h1 hne
  obtain ⟨_, hb, _⟩ := okCls_base hok.1 i hi
  refine ⟨t, h2, by rw [h2]; exact h3.cons _, fun b hb1 => ?_⟩
  have h5 := h4 b hb1
  have h6 := hb b hb1
  rw [getD_take r i _ (by omega)] at h5
  rw [h2]
  exact h5.cons _

end Go.Proofs.Ytkclfbmgnhmkhaa.PC
