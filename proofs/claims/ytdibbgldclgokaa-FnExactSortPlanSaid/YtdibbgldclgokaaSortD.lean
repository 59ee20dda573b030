/- The sort in plain words: how long its order can be. No condition beyond those of the theorems. -/
import Derived.Test.YtdibbgldclgokaaSortC
set_option linter.unusedSimpArgs false
set_option linter.unusedVariables false
namespace Go.Proofs.Ytdibbgldclgokaa.SortM

theorem passes_post (B : Nat) : ∀ (f : Nat) (R : List (List Int)), R.flatten.length ≤ B → Few (fun O s => passes O f s R) (f * B) (fun R' => R'.flatten.length ≤ B)
  | 0, R, h => few_pure _ _ h
  | f + 1, R, hB => by
    by_cases hc : 1 < R.length
    · rw [passes_bind f R hc]
      refine few_bind (b2 := f * B) (pass_few R.length R [] (Nat.le_refl _)) (fun N hN => passes_post B f N ?_) (by rw [Nat.add_mul]; omega)
      rw [hN, List.flatten_nil, List.length_nil, Nat.zero_add]
      exact hB
    · rw [passes_end f R hc]
      exact few_pure _ _ hB
theorem first_le : ∀ (R : List (List Int)), (R.getD 0 []).length ≤ R.flatten.length
  | [] => by simp
  | r :: R => by
    rw [List.flatten_cons, List.length_append]
    show r.length ≤ _
    omega
/-- An order is no longer than the things allow. -/
theorem sort_short (O : Oracle) (N : Nat) (hN : N ≤ 2000) : ((sort O (N : Int)).2.getD []).length ≤ 100000000000 := by
  rw [sort_bind, Int.toNat_natCast]
  generalize hq : bindM _ _ O [] = X
  obtain ⟨s', r⟩ := X
  have hB : N * 2061 ≤ 4122000 := by omega
  obtain ⟨B, hBB⟩ : ∃ B, N * 2061 = B := ⟨_, rfl⟩
  have h := few_bind (b := N * 2061 + N * B) (Q := fun (L : List Int) => L.length ≤ B) (runs_few (N : Int) 2061 (by omega) N 0 []) (fun R hR => few_bind (G := fun (R' : List (List Int)) (_ : Oracle) (s : Asked) => (s, some (R'.getD 0 []))) (b2 := 0) (b := N * B) (passes_post B R.length R (by have := hR.2; rw [List.flatten_nil, List.length_nil, Nat.zero_add, hBB] at this; exact this)) (fun R' hR' => few_pure _ _ (Nat.le_trans (first_le R') hR')) (by
    have h1 := hR.1
    rw [List.length_nil, Nat.zero_add] at h1
    exact Nat.mul_le_mul_right _ h1)) (Nat.le_refl _)
  have h2 := (h O [] s' r hq).2
  cases r with
  | none => simp
  | some L =>
    have := h2 L rfl
    show L.length ≤ _
    omega

end Go.Proofs.Ytdibbgldclgokaa.SortM
