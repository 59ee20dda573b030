/- The reference's attribute of a class as a plain function. Plain law; no condition beyond those of the theorems. -/
import Derived.Test.YtkclfbmgnhmkhaaLinP
import Derived.Test.YtkclfbmgnhmkhaaPLx1
import Derived.Test.YtkclfbmgnhmkhaaCpyZ
namespace Go.Proofs.Ytkclfbmgnhmkhaa.PC
open Go.RowKit Go.Proofs.YtkclfbmgnhmkhaaW.PrintWords Go.Proofs.YtkclfbmgnhmkhaaW.PrintLast
set_option linter.unusedVariables false
set_option linter.unusedSimpArgs false

theorem named_loop (l : List S48) (n : ByteArray) (hl : l.length ≤ 2000000) (d : Nat) : ∀ (k j : Nat), j + d = l.length → d < k →
    (∃ t : Nat, ∃ h : t < l.length, spec_l9Named.l0 k l n (j : Int) = some (t : Int) ∧ (l.drop j).find? (hit n) = some l[t]) ∨ (spec_l9Named.l0 k l n (j : Int) = some (-1) ∧ (l.drop j).find? (hit n) = none) := by
  induction d with
  | zero =>
    intro k j hj hk
    obtain ⟨k, rfl⟩ : ∃ q, k = q + 1 := ⟨k - 1, by omega⟩
    refine Or.inr ⟨?_, by rw [List.drop_eq_nil_iff.2 (by omega)]; rfl⟩
    rw [spec_l9Named.l0, if_neg (by omega)]
  | succ d ih =>
    intro k j hj hk
    obtain ⟨k, rfl⟩ : ∃ q, k = q + 1 := ⟨k - 1, by omega⟩
    have hjL : j < l.length := by omega
    rw [spec_l9Named.l0, if_pos (by omega), if_pos (by omega), rd48 l j hjL, find_drop l n j hjL]
    by_cases e : l[j].f0.toList = n.toList
    · rw [if_pos e, if_pos (show hit n l[j] = true by unfold hit; rw [e]; exact beq_self_eq_true _)]
      exact Or.inl ⟨j, hjL, rfl, rfl⟩
    · rw [if_neg e, if_neg (show ¬ hit n l[j] = true by unfold hit; simpa using e), wrap_in _ (by omega) (by omega), show ((j : Int) + 1) = ((j + 1 : Nat) : Int) by omega]
      exact ih k (j + 1) (by omega) (by omega)
theorem named_some (l : List S48) (n : ByteArray) (hl : l.length ≤ 2000000) (k : Nat) (hk : l.length < k) :
    (∃ t : Nat, ∃ h : t < l.length, spec_l9Named.f k l n = some (t : Int) ∧ l.find? (hit n) = some l[t]) ∨ (spec_l9Named.f k l n = some (-1) ∧ l.find? (hit n) = none) := by
  have := named_loop l n hl l.length k 0 (by omega) hk
  rw [List.drop_zero] at this
  exact this

end Go.Proofs.Ytkclfbmgnhmkhaa.PC
