/- The reference's attribute of a class as a plain function. Plain law; no condition beyond those of the theorems. -/
import Derived.Test.YtkclfbmgnhmkhaaLinP
import Derived.Test.YtkclfbmgnhmkhaaPLx1
import Derived.Test.YtkclfbmgnhmkhaaCpyZ
namespace Go.Proofs.Ytkclfbmgnhmkhaa.PC
open Go.RowKit Go.Proofs.YtkclfbmgnhmkhaaW.PrintWords Go.Proofs.YtkclfbmgnhmkhaaW.PrintLast
set_option linter.unusedVariables false
set_option linter.unusedSimpArgs false

theorem named_loop (l : List S48) (n : ByteArray) (hl : l.length ≤ 2000000) (d : Nat) : ∀ (k j : Nat), j + d = l.length → d < k →
    (∃ t : Nat, ∃ h : t < l.length, spec_l9Named.l0 k l n (j : Int) = some (t : Int) ∧ (l.drop j).find? (hit n) = some l[t]) ∨ (spec_l9Named.l0 k l n (j : Int) = some (-1) ∧ (l.drop j).find? (hit n) = none) := by
  induction d with
  | zero =>
    intro k j hj hk
    obtain ⟨k, rfl⟩ : ∃ q, k = q + 1 := ⟨k - 1, by omega⟩
    refine Or.inr ⟨?_, by rw [List.drop_eq_nil_iff.2 (by omega)]; rfl⟩
    rw [spec_l9Named.l0, if_neg (by omega)]
  | succ d ih =>
    intro k j hj hk
    obtain ⟨k, rfl⟩ : ∃ q, k = q + 1 := ⟨k - 1, by omega⟩
    have hjL : j < l.length := by omega
    rw [spec_l9Named.l0, if_pos (by omega), if_pos (by omega), rd48 l j hjL, find_drop l n j hjL]
    by_cases e : l[j].f0.toList = n.toList
    · rw [if_pos e, if_pos (show hit n l[j] = true by unfold hit; rw [e]; exact beq_self_eq_true _)]
      exact Or.inl ⟨j, hjL, rfl, rfl⟩
    · rw [if_neg e, if_neg (show ¬ hit n l[j] = true by unfold hit; simpa using e), wrap_in _ (by omega) (by omega), show ((j : Int) + 1) = ((j + 1 : Nat) : Int) by omega]
      exact ih k (j + 1) (by omega) (by omega)
theorem named_some (l : List S48) (n : ByteArray) (hl : l.length ≤ 2000000) (k : Nat) (hk : l.length < k) :
    (∃ t : Nat, ∃ h : t < l.length, spec_l9Named.f k l n = some (t : Int) ∧ l.find? (hit n) = some l[t]) ∨ (spec_l9Named.f k l n = some (-1) ∧ l.find? (hit n) = none) := by
  have := named_loop l n hl l.length k 0 (by omega) hk
  rw [List.drop_zero] at this
  exact this

def firstS (o : Option S48) : ByteArray × Int × Int := match o with
  | some a => (a.f0, a.f1, a.f2)
  | none => (⟨#[]⟩, -1, 0)
theorem first_loop (l : List S41) (line : List Int) (n : ByteArray) (hl : line.length ≤ 1000000) (hr : ∀ c ∈ line, 0 ≤ c ∧ c < (l.length : Int)) (ha : ∀ c ∈ l, c.f1.length ≤ 1000) (d : Nat) : ∀ (k j : Nat), j + d = line.length → d + 1001 < k →
    spec_l9First.l0 k l line n (j : Int) = some (firstS (firstAt l n (line.drop j))) := by
  induction d with
  | zero =>
    intro k j hj hk
    obtain ⟨k, rfl⟩ : ∃ q, k = q + 1 := ⟨k - 1, by omega⟩
    rw [spec_l9First.l0, if_neg (by omega), List.drop_eq_nil_iff.2 (by omega)]
    rfl
  | succ d ih =>
    intro k j hj hk
    obtain ⟨k, rfl⟩ : ∃ q, k = q + 1 := ⟨k - 1, by omega⟩
    have hjL : j < line.length := by omega
    have hc := hr _ (List.getElem_mem hjL)
    rw [spec_l9First.l0, if_pos (by omega), if_pos (by omega), rdI line j hjL, if_pos hc.1, if_pos hc.2, first_drop l n line j hjL]
    obtain ⟨c, hcc⟩ : ∃ c : Nat, line[j] = (c : Int) := ⟨(line[j]).toNat, by omega⟩
    rw [hcc] at hc ⊢
    have hcL : c < l.length := by omega
    rw [rd41 l c hcL]
    have hal := ha _ (List.getElem_mem hcL)
    rcases named_some l[c].f1 n (by omega) k (by omega) with ⟨t, ht, e1, e2⟩ | ⟨e1, e2⟩
    · rw [e1, Option.bind_some, if_pos (by omega), if_pos (by omega), if_pos (by omega), rd48 _ t ht, e2]
      rfl
    · rw [e1, Option.bind_some, if_neg (by omega), e2, wrap_in _ (by omega) (by omega), show ((j : Int) + 1) = ((j + 1 : Nat) : Int) by omega]
      exact ih k (j + 1) (by omega) (by omega)
theorem first_some (l : List S41) (line : List Int) (n : ByteArray) (hl : line.length ≤ 1000000) (hr : ∀ c ∈ line, 0 ≤ c ∧ c < (l.length : Int)) (ha : ∀ c ∈ l, c.f1.length ≤ 1000) (k : Nat) (hk : line.length + 1001 < k) :
    spec_l9First.f k l line n = some (firstS (firstAt l n line)) := by
  have := first_loop l line n hl hr ha line.length k 0 (by omega) hk
  rw [List.drop_zero] at this
  exact this

theorem cls_attrs {L : List S41} (h : okCls L = true) : ∀ c ∈ L, c.f1.length ≤ 1000 := by
  unfold okCls at h
  rw [Bool.and_eq_true, decide_eq_true_eq] at h
  intro c hc
  obtain ⟨j, hj, rfl⟩ := List.getElem_of_mem hc
  have h5 := okFrom_get L 0 h.2 j hj
  rw [Nat.zero_add] at h5
  unfold clsOk at h5
  simp only [Bool.and_eq_true, decide_eq_true_eq] at h5
  have := h5.1.2.2
  omega
theorem args_same (L : List S41) (O : List S48) (n : ByteArray) (a1 : Int) (hl : L.length ≤ 1000000000000) (hin : ∀ c ∈ L, c.f0.length ≤ 1000000000000 ∧ c.f1.length ≤ 1000000000000) (ho : O.length ≤ 1000000000000) (k : Nat) (hk : 21000000 ≤ k) :
    (∃ x, spec_l9Args.f k L a1 O = some (x, false) ∧ impl_yattr.f L a1 O n = some zRes) ∨
    (∃ line, spec_l9Args.f k L a1 O = some (line, true) ∧ impl_yattr.f L a1 O n = some (resOf (firstAt L n line)) ∧ line.length ≤ 200 ∧ (∀ c ∈ line, 0 ≤ c ∧ c < (L.length : Int)) ∧ ∀ c ∈ L, c.f1.length ≤ 1000) := by
  have hi : impl_ClassesOk.f L = some (okCls L) := by
    unfold impl_ClassesOk.f
    rw [if_pos ⟨hl, hin⟩]
  unfold spec_l9Args.f impl_yattr.f
  rw [specCls L hl (fun c hc => (hin c hc).2) k hk, Option.bind_some, hi, Option.bind_some]
  cases hok : okCls L with
  | false => exact Or.inl ⟨[], rfl, rfl⟩
  | true =>
    rw [if_pos (rfl : true = true), if_neg (show ¬ (true = false) by decide)]
    by_cases h0 : a1 < 0
    · rw [if_pos h0, if_pos h0]
      exact Or.inl ⟨[], rfl, rfl⟩
    rw [if_neg h0, if_neg h0]
    by_cases h1 : (L.length : Int) ≤ a1
    · rw [if_pos h1, if_pos h1]
      exact Or.inl ⟨[], rfl, rfl⟩
    rw [if_neg h1, if_neg h1, attrs_some O false ho k (by omega), Option.bind_some]
    have hu : impl_yunlike.f O = some (attrsB false O) := by
      unfold impl_yunlike.f attrsB
      rw [if_pos ho]
      simp
    rw [hu, Option.bind_some]
    cases hb : attrsB false O with
    | false => exact Or.inl ⟨[], rfl, rfl⟩
    | true =>
      rw [if_pos (rfl : true = true), if_neg (show ¬ (true = false) by decide)]
      obtain ⟨r, hr, hlen, hrow⟩ := ylines_some L hok
      rw [← ylines_l9, hr, Option.bind_some, Option.bind_some, if_pos (by omega), if_pos (by omega), if_pos (by omega), show rd_L1 r a1 = r.getD a1.toNat [] from rfl]
      have hat : a1.toNat < r.length := by omega
      have hmem : r.getD a1.toNat [] ∈ r := by
        rw [List.getD_eq_getElem?_getD, List.getElem?_eq_getElem hat]
        exact List.getElem_mem hat
      obtain ⟨hn, hbd⟩ := hrow _ hmem
      generalize r.getD a1.toNat [] = line at *
      have h200 : L.length ≤ 200 := by
        unfold okCls at hok
        rw [Bool.and_eq_true, decide_eq_true_eq] at hok
        exact hok.1
      have hll := pigeon L.length line hn hbd
      by_cases hnil : line = []
      · rw [if_pos hnil, hnil]
        exact Or.inl ⟨[], rfl, rfl⟩
      · have hpos : 0 < line.length := List.length_pos_iff.2 hnil
        have hca := cls_attrs hok
        rw [if_neg hnil, if_pos ⟨by omega, hbd, fun c hc => by have := hca c hc; omega⟩, decide_eq_true (by omega)]
        exact Or.inr ⟨line, rfl, rfl, by omega, hbd, hca⟩

end Go.Proofs.Ytkclfbmgnhmkhaa.PC
