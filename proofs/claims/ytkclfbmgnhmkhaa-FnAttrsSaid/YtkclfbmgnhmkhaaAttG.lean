/- AttrGet of the program and of the reference: the same answer. Plain law; no condition beyond those of the theorems. -/
import Derived.Test.YtkclfbmgnhmkhaaAttZ
import Derived.Test.YtkclfbmgnhmkhaaPLx2
namespace Go.Proofs.Ytkclfbmgnhmkhaa.PC
open Go.RowKit Go.Proofs.YtkclfbmgnhmkhaaW.PrintWords Go.Proofs.YtkclfbmgnhmkhaaW.PrintLast
set_option linter.unusedVariables false
set_option linter.unusedSimpArgs false

theorem get_loop (n : ByteArray) (fd : Bool) (O : List S48) (p : ByteArray) (kd v : Int) (hl : O.length ≤ 1000000000) (d : Nat) : ∀ (k j : Nat), j + d = O.length → d < k →
    impl_AttrGet.l0 k n fd O (O.length : Int) (j : Int) p kd v = some (match (O.drop j).find? (hit n) with | some a => (1, a.f2) | none => if fd = true then (if kd = 2 then (3, v) else (2, v)) else (0, 0)) := by
  induction d with
  | zero =>
    intro k j hj hk
    obtain ⟨k, rfl⟩ : ∃ q, k = q + 1 := ⟨k - 1, by omega⟩
    rw [impl_AttrGet.l0, if_neg (by omega), List.drop_eq_nil_iff.2 (by omega)]
    by_cases h1 : fd = true
    · rw [if_pos h1]
      by_cases h2 : kd = 2
      · rw [if_pos h2]; simp [h1, h2]
      · rw [if_neg h2]; simp [h1, h2]
    · rw [if_neg h1]; simp [h1]
  | succ d ih =>
    intro k j hj hk
    obtain ⟨k, rfl⟩ : ∃ q, k = q + 1 := ⟨k - 1, by omega⟩
    have hjL : j < O.length := by omega
    rw [impl_AttrGet.l0, if_pos (by omega), if_pos (by omega), if_pos (by omega), rd48 O j hjL, find_drop O n j hjL]
    by_cases e : O[j].f0.toList = n.toList
    · rw [if_pos e, if_pos (show hit n O[j] = true by unfold hit; rw [e]; exact beq_self_eq_true _)]
    · rw [if_neg e, if_neg (show ¬ hit n O[j] = true by unfold hit; simpa using e), wrap_in _ (by omega) (by omega), show ((j : Int) + 1) = ((j + 1 : Nat) : Int) by omega]
      exact ih k (j + 1) (by omega) (by omega)
theorem first_kind (L : List S41) (n : ByteArray) (hk : ∀ c ∈ L, ∀ a ∈ c.f1, 0 ≤ a.f1 ∧ a.f1 ≤ 2) : ∀ (line : List Int), (∀ c ∈ line, 0 ≤ c ∧ c < (L.length : Int)) → ∀ a, firstAt L n line = some a → 0 ≤ a.f1 ∧ a.f1 ≤ 2
  | [], _, a, h => by simp [firstAt] at h
  | c :: r, hr, a, h => by
    rw [firstAt] at h
    have hc := hr c (List.mem_cons_self ..)
    obtain ⟨m, rfl⟩ : ∃ m : Nat, c = (m : Int) := ⟨c.toNat, by omega⟩
    have hm : m < L.length := by omega
    rw [rd41 L m hm] at h
    cases e : L[m].f1.find? (hit n) with
    | some b =>
      rw [e] at h
      obtain rfl := Option.some.inj h
      exact hk _ (List.getElem_mem hm) _ (List.mem_of_find?_eq_some e)
    | none =>
      rw [e] at h
      exact first_kind L n hk r (fun c hc => hr c (List.mem_cons_of_mem _ hc)) a h
theorem cls_kinds {L : List S41} (h : okCls L = true) : ∀ c ∈ L, ∀ a ∈ c.f1, 0 ≤ a.f1 ∧ a.f1 ≤ 2 := by
  unfold okCls at h
  rw [Bool.and_eq_true, decide_eq_true_eq] at h
  intro c hc
  obtain ⟨j, hj, rfl⟩ := List.getElem_of_mem hc
  have h5 := okFrom_get L 0 h.2 j hj
  rw [Nat.zero_add] at h5
  unfold clsOk at h5
  simp only [Bool.and_eq_true, decide_eq_true_eq] at h5
  exact h5.2
theorem args_ok (L : List S41) (O : List S48) (a1 : Int) (hl : L.length ≤ 1000000000000) (hin : ∀ c ∈ L, c.f1.length ≤ 1000000000000) (k : Nat) (hk : 21000000 ≤ k) (line : List Int) (h : spec_l9Args.f k L a1 O = some (line, true)) : okCls L = true := by
  unfold spec_l9Args.f at h
  rw [specCls L hl hin k hk, Option.bind_some] at h
  cases e : okCls L with
  | true => rfl
  | false =>
    rw [e, if_neg (by decide)] at h
    simp at h

end Go.Proofs.Ytkclfbmgnhmkhaa.PC
