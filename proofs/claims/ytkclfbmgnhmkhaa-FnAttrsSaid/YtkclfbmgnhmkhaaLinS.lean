/- What the lines of classes hold: the bases, and the bases' lines, in their order. Plain law; no condition beyond those of the theorems. -/
import Derived.Test.YtkclfbmgnhmkhaaLinP
namespace Go.Proofs.Ytkclfbmgnhmkhaa.PC
open Go.RowKit
set_option linter.unusedVariables false
set_option linter.unusedSimpArgs false

theorem lines_take : ∀ (l : List S41) (i : Nat) (out r : List (List Int)), linesFrom l i out = some r → out.length = i → r.take i = out ∧ r.length = i + l.length
  | [], i, out, r, h, ho => by
    rw [linesFrom] at h
    obtain rfl := Option.some.inj h
    exact ⟨by rw [← ho, List.take_length], by simp [ho]⟩
  | c :: t, i, out, r, h, ho => by
    rw [linesFrom] at h
    obtain ⟨L, h1, h2⟩ := Option.bind_eq_some_iff.1 h
    obtain ⟨h3, h4⟩ := lines_take t (i + 1) (out ++ [L]) r h2 (by rw [List.length_append, ho]; rfl)
    refine ⟨?_, by rw [h4, List.length_cons]; omega⟩
    have h5 := congrArg (List.take i) h3
    rw [List.take_take, Nat.min_eq_left (by omega), List.take_append_of_le_length (by omega), ← ho, List.take_length] at h5
    rw [← ho]
    exact h5
theorem getD_take (r : List (List Int)) (i b : Nat) (h : b < i) : (r.take i).getD b [] = r.getD b [] := by
  rw [List.getD_eq_getElem?_getD, List.getD_eq_getElem?_getD, List.getElem?_take, if_pos h]