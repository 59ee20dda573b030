/- Marks of rows, and what Mro and MroFits of the reference come to. Plain law; no condition beyond those of the theorems. -/
import Derived.Test.YtkclfbmgnhmkhaaLinP
import Derived.Test.YtkclfbmgnhmkhaaCpyZ
import Derived.Test.YtkclfbmgnhmkhaaPMx1
import Derived.Test.YtkclfbmgnhmkhaaPMx2
import Derived.Test.YtkclfbmgnhmkhaaGMark
import Derived.Test.YtkclfbmgnhmkhaaGMro
namespace Go.Proofs.Ytkclfbmgnhmkhaa.PC
open Go.RowKit Go.Proofs.YtkclfbmgnhmkhaaW.PrintWords Go.Proofs.YtkclfbmgnhmkhaaW.PrintLast Go.Proofs.YtkclfbmgnhmkhaaW.PrintMore
set_option linter.unusedVariables false
set_option linter.unusedSimpArgs false

theorem wrapS (i : Nat) (h : i < 9000000000000000000) : wrap64 ((i : Int) + 1) = ((i + 1 : Nat) : Int) := by
  rw [wrap_in _ (by omega) (by omega)]
  omega
theorem fits_loop (ls : List (List Int)) (hl : ls.length ≤ 1000) (d : Nat) : ∀ (k i : Nat) (x : List Bool), ls.length = i + d → x.length = i → d < k → spec_MroFits.l0 k x ls (i : Int) = some (x ++ (ls.drop i).map fun L => !L.isEmpty) := by
  induction d with
  | zero =>
    intro k i x h1 h2 h3
    obtain ⟨k, rfl⟩ : ∃ m, k = m + 1 := ⟨k - 1, by omega⟩
    rw [spec_MroFits.l0, if_neg (by omega), List.drop_eq_nil_iff.2 (by omega)]
    simp
  | succ d ih =>
    intro k i x h1 h2 h3
    obtain ⟨k, rfl⟩ : ∃ m, k = m + 1 := ⟨k - 1, by omega⟩
    have hi : i < ls.length := by omega
    have hr : rd_L1 ls (i : Int) = ls[i] := by simp [rd_L1, List.getElem?_eq_getElem hi]
    rw [spec_MroFits.l0, if_pos (by omega), if_pos (by omega), if_pos (by omega), hr, wrapS i (by omega), ih k (i + 1) _ (by omega) (by rw [List.length_append, h2]; rfl) (by omega), List.drop_eq_getElem_cons hi, List.map_cons, List.append_assoc, List.singleton_append]
    congr 3
    cases ls[i] with
    | nil => rfl
    | cons a t => first | (simp; done) | (simp; omega)
/-- The lines of classes, none where the classes are bad. -/
theorem lines_both (l : List S41) (h1 : l.length ≤ 1048576) (h2 : ∀ c ∈ l, c.f0.length ≤ 1048576 ∧ c.f1.length ≤ 1048576) (k : Nat) (hk : 21000000 ≤ k) :
    (okCls l = false ∧ spec_ClassesOk.f k l = some false ∧ impl_ClassesOk.f l = some false) ∨
    (okCls l = true ∧ spec_ClassesOk.f k l = some true ∧ impl_ClassesOk.f l = some true ∧ ∃ ls, impl_ylines.f l = some ls ∧ spec_l9Lines.f l = some ls ∧ okOut l.length ls ∧ ls.length ≤ 200 ∧ ∀ L ∈ ls, L.length ≤ 200) := by
  have e1 := specCls l (by omega) (fun c hc => by have := (h2 c hc).2; omega) k hk
  have e2 : impl_ClassesOk.f l = some (okCls l) := by
    unfold impl_ClassesOk.f
    rw [if_pos ⟨by omega, fun c hc => by have := h2 c hc; omega⟩]
  cases e : okCls l with
  | false =>
    rw [e] at e1 e2
    exact Or.inl ⟨rfl, e1, e2⟩
  | true =>
    rw [e] at e1 e2
    obtain ⟨ls, e3, ho⟩ := ylines_some l e
    have h200 : l.length ≤ 200 := by
      have h := e
      unfold okCls at h
      rw [Bool.and_eq_true, decide_eq_true_eq] at h
      exact h.1
    refine Or.inr ⟨rfl, e1, e2, ls, e3, by rw [← ylines_l9]; exact e3, ho, by rw [ho.1]; exact h200, fun L hL => ?_⟩
    obtain ⟨h5, h6⟩ := ho.2 L hL
    have := pigeon l.length L h5 h6
    omega
theorem fits_both (l : List S41) (h1 : l.length ≤ 1048576) (h2 : ∀ c ∈ l, c.f0.length ≤ 1048576 ∧ c.f1.length ≤ 1048576) (k : Nat) (hk : 21000000 ≤ k) :
    ∃ F : List Bool, spec_MroFits.f k l = some F ∧ impl_MroFits.f l = some F ∧ F.length ≤ 1000 := by
  unfold spec_MroFits.f impl_MroFits.f
  rcases lines_both l h1 h2 k hk with ⟨_, e1, e2⟩ | ⟨_, e1, e2, ls, e3, e4, _, h3, _⟩
  · refine ⟨[], ?_, ?_, by simp⟩
    · rw [Option.bind_some, e1, Option.bind_some, if_neg (by decide)]
    · rw [e2, Option.bind_some, if_pos rfl]
  · refine ⟨ls.map fun L => !L.isEmpty, ?_, ?_, by rw [List.length_map]; omega⟩
    · rw [Option.bind_some, e1, Option.bind_some, if_pos rfl, e4, Option.bind_some, show (0 : Int) = ((0 : Nat) : Int) from rfl, fits_loop ls (by omega) ls.length k 0 [] (by omega) rfl (by omega)]
      rfl
    · rw [e2, Option.bind_some, if_neg (by decide), e3, Option.bind_some, if_pos (by omega)]
end Go.Proofs.Ytkclfbmgnhmkhaa.PC
