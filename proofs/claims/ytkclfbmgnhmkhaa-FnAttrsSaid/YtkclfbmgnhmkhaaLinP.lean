/- The lines of classes: the program's and the reference's are the same, and there is fuel enough. Plain law; no condition beyond those of the theorems. -/
import Derived.Test.YtkclfbmgnhmkhaaGL9
import Derived.Test.YtkclfbmgnhmkhaaClsZ
namespace Go.Proofs.Ytkclfbmgnhmkhaa.PC
open Go.RowKit
set_option linter.unusedVariables false
set_option linter.unusedSimpArgs false

theorem mergeM_mS (a : Int) : ∀ (k : Nat) (LS : List (List Int)) (l : List Int), mergeM k LS (a :: l) = (mS k LS l).map fun p => if p.2 = true then a :: p.1 else []
  | 0, _, _ => rfl
  | k + 1, LS, l => by
    rw [mergeM, mS]
    cases heads LS LS with
    | some h => exact mergeM_mS a k _ (l ++ [h])
    | none =>
      by_cases e : LS.all (fun L => L.isEmpty) = true
      · simp only [if_pos e]; rfl
      · simp only [if_neg e]; rfl
theorem one_spec (out : List (List Int)) (i : Nat) (bs : List Int) : oneLine out i bs = specLine out i bs := by
  unfold oneLine specLine
  by_cases e : bs.any (fun b => (out.getD b.toNat []).isEmpty) = true
  · rw [if_pos e, if_pos e]
  · rw [if_neg e, if_neg e, mergeM_mS]
theorem lines_spec : ∀ (l : List S41) (i : Nat) (out : List (List Int)), linesFrom l i out = specFrom l i out
  | [], _, _ => rfl
  | c :: r, i, out => by
    rw [linesFrom, specFrom, one_spec]
    cases specLine out i c.f0 with
    | none => rfl
    | some L => exact lines_spec r (i + 1) (out ++ [L])
theorem ylines_l9 (l : List S41) : impl_ylines.f l = spec_l9Lines.f l := by
  unfold impl_ylines.f spec_l9Lines.f
  rw [lines_spec]

def total (LS : List (List Int)) : Nat := (LS.map List.length).sum
theorem strip_lt (h : Int) : ∀ LS : List (List Int), total (LS.map (strip h)) ≤ total LS
  | [] => Nat.le_refl _
  | L :: r => by
    have h1 := strip_lt h r
    have h2 := strip_len h L
    simp only [total, List.map_cons, List.sum_cons] at h1 ⊢
    omega
theorem strip_less (h : Int) (LS0 : List (List Int)) : ∀ LS : List (List Int), heads LS0 LS = some h → total (LS.map (strip h)) < total LS
  | [], e => by simp [heads] at e
  | [] :: r, e => by
    have h1 := strip_less h LS0 r e
    simp only [total, List.map_cons, List.sum_cons] at h1 ⊢
    have h2 := strip_len h []
    simp only [List.length_nil] at h2 ⊢
    omega
  | (x :: T) :: r, e => by
    rw [heads] at e
    split at e
    · have h1 := strip_less h LS0 r e
      have h2 := strip_len h (x :: T)
      simp only [total, List.map_cons, List.sum_cons] at h1 ⊢
      omega
    · obtain rfl := Option.some.inj e
      have h1 := strip_lt x r
      have h2 : (strip x (x :: T)).length = T.length := by simp [strip]
      simp only [total, List.map_cons, List.sum_cons] at h1 ⊢
      rw [h2, List.length_cons]
      omega
theorem merge_some : ∀ (k : Nat) (LS : List (List Int)) (l : List Int), total LS < k → ∃ r, mergeM k LS l = some r
  | 0, _, _, h => by omega
  | k + 1, LS, l, h => by
    rw [mergeM]
    cases e : heads LS LS with
    | some x => exact merge_some k _ _ (by have := strip_less x LS LS e; omega)
    | none =>
      by_cases e2 : LS.all (fun L => L.isEmpty) = true
      · exact ⟨l, by simp only [if_pos e2]⟩
      · exact ⟨[], by simp only [if_neg e2]⟩

/-- What is taken stands in no row any more. -/
theorem heads_tail : ∀ (LS l : List (List Int)) (h : Int), heads LS l = some h → LS.any (fun L => inT h L) = false
  | LS, [], h, e => by simp [heads] at e
  | LS, [] :: r, h, e => heads_tail LS r h e
  | LS, (x :: T) :: r, h, e => by
    rw [heads] at e
    split at e
    · exact heads_tail LS r h e
    · rename_i hn
      obtain rfl := Option.some.inj e
      simpa using hn
theorem strip_gone (LS : List (List Int)) (h : Int) (e : LS.any (fun L => inT h L) = false) : ∀ L ∈ LS.map (strip h), h ∉ L := by
  intro L hL hm
  obtain ⟨L0, h0, rfl⟩ := List.mem_map.1 hL
  have h1 : inT h L0 = false := by
    have := List.any_eq_false.1 e L0 h0
    simpa using this
  cases L0 with
  | nil => cases hm
  | cons y T =>
    have h2 : h ∉ T := by
      have : decide (h ∈ T) = false := h1
      simpa using this
    by_cases e2 : y = h
    · rw [strip, if_pos e2] at hm
      exact h2 hm
    · rw [strip, if_neg e2] at hm
      rcases List.mem_cons.1 hm with e3 | e3
      · exact e2 e3.symm
      · exact h2 e3
/-- A merged line has each thing once, and things of the rows and of the line alone. -/
theorem merge_nodup : ∀ (k : Nat) (LS : List (List Int)) (l r : List Int), mergeM k LS l = some r → l.Nodup → (∀ L ∈ LS, ∀ x ∈ L, x ∉ l) → r.Nodup ∧ ∀ x ∈ r, x ∈ l ∨ ∃ L ∈ LS, x ∈ L
  | 0, _, _, _, h, _, _ => by simp [mergeM] at h
  | k + 1, LS, l, r, h, hn, hd => by
    rw [mergeM] at h
    cases e : heads LS LS with
    | some x =>
      rw [e] at h
      obtain ⟨L0, h0, hx⟩ := heads_mem LS LS x e
      have hg := strip_gone LS x (heads_tail LS LS x e)
      have h1 := merge_nodup k _ _ _ h (by
        rw [List.nodup_append]
        exact ⟨hn, List.nodup_cons.2 ⟨by simp, List.nodup_nil⟩, fun a ha b hb => by
          rw [List.mem_singleton.1 hb]
          rintro rfl
          exact hd L0 h0 a hx ha⟩) (fun L hL y hy hm => by
        rcases List.mem_append.1 hm with hm | hm
        · obtain ⟨L1, h1, rfl⟩ := List.mem_map.1 hL
          exact hd L1 h1 y (strip_sub _ _ _ hy) hm
        · rw [List.mem_singleton.1 hm] at hy
          exact hg L hL hy)
      refine ⟨h1.1, fun y hy => ?_⟩
      rcases h1.2 y hy with h2 | ⟨L, hL, h2⟩
      · rcases List.mem_append.1 h2 with h2 | h2
        · exact Or.inl h2
        · rw [List.mem_singleton.1 h2]
          exact Or.inr ⟨L0, h0, hx⟩
      · obtain ⟨L1, h3, rfl⟩ := List.mem_map.1 hL
        exact Or.inr ⟨L1, h3, strip_sub _ _ _ h2⟩
    | none =>
      rw [e] at h
      by_cases e2 : LS.all (fun L => L.isEmpty) = true
      · simp only [if_pos e2] at h
        obtain rfl := Option.some.inj h
        exact ⟨hn, fun x hx => Or.inl hx⟩
      · simp only [if_neg e2] at h
        obtain rfl := Option.some.inj h
        exact ⟨List.nodup_nil, fun x hx => by cases hx⟩

/-- What the lines told so far are like. -/
def okOut (i : Nat) (out : List (List Int)) : Prop := out.length = i ∧ ∀ L ∈ out, L.Nodup ∧ ∀ x ∈ L, 0 ≤ x ∧ x < (i : Int)
theorem total_le (n : Nat) : ∀ LS : List (List Int), (∀ L ∈ LS, L.length ≤ n) → total LS ≤ LS.length * n
  | [], _ => by simp [total]
  | L :: r, h => by
    have h1 := total_le n r (fun L hL => h L (List.mem_cons_of_mem _ hL))
    have h2 := h L (List.mem_cons_self ..)
    simp only [total, List.map_cons, List.sum_cons, List.length_cons] at h1 ⊢
    rw [Nat.add_mul, Nat.one_mul]
    omega
theorem one_some (out : List (List Int)) (i : Nat) (hi : i ≤ 200) (bs : List Int) (ho : okOut i out) (hb : ∀ b ∈ bs, 0 ≤ b ∧ b < (i : Int)) (hn : bs.Nodup) :
    ∃ r, oneLine out i bs = some r ∧ r.Nodup ∧ ∀ x ∈ r, 0 ≤ x ∧ x < ((i + 1 : Nat) : Int) := by
  have hbl := pigeon i bs hn hb
  have hrow : ∀ L ∈ bs.map (fun b => out.getD b.toNat []) ++ [bs], L.length ≤ i ∧ ∀ x ∈ L, 0 ≤ x ∧ x < (i : Int) := fun L hL => by
    rcases List.mem_append.1 hL with hL | hL
    · obtain ⟨b, hb1, rfl⟩ := List.mem_map.1 hL
      rw [List.getD_eq_getElem?_getD]
      cases hc : out[b.toNat]? with
      | none => simp
      | some L =>
        obtain ⟨h5, h6⟩ := ho.2 L (List.mem_of_getElem? hc)
        exact ⟨pigeon i L h5 h6, h6⟩
    · rw [List.mem_singleton.1 hL]
      exact ⟨hbl, hb⟩
  unfold oneLine
  by_cases e : bs.any (fun b => (out.getD b.toNat []).isEmpty) = true
  · rw [if_pos e]
    exact ⟨[], rfl, List.nodup_nil, fun x hx => by cases hx⟩
  · rw [if_neg e]
    have ht := total_le i _ (fun L hL => (hrow L hL).1)
    rw [List.length_append, List.length_map, List.length_singleton] at ht
    have ht2 : (bs.length + 1) * i ≤ 201 * 200 := Nat.mul_le_mul (by omega) hi
    obtain ⟨r, hr⟩ := merge_some 1000000 (bs.map (fun b => out.getD b.toNat []) ++ [bs]) [(i : Int)] (by omega)
    obtain ⟨h1, h2⟩ := merge_nodup _ _ _ _ hr (List.nodup_cons.2 ⟨by simp, List.nodup_nil⟩) (fun L hL x hx hm => by
      rw [List.mem_singleton.1 hm] at hx
      have := ((hrow L hL).2 _ hx).2
      omega)
    refine ⟨r, hr, h1, fun x hx => ?_⟩
    rcases h2 x hx with h3 | ⟨L, hL, h3⟩
    · rw [List.mem_singleton.1 h3]
      omega
    · have := (hrow L hL).2 x h3
      omega
theorem lines_some : ∀ (l : List S41) (i : Nat) (out : List (List Int)), okFrom i l = true → i + l.length ≤ 200 → okOut i out → ∃ r, linesFrom l i out = some r ∧ okOut (i + l.length) r
  | [], i, out, _, _, ho => ⟨out, rfl, by simpa using ho⟩
  | c :: t, i, out, hk, hl, ho => by
    rw [okFrom, Bool.and_eq_true] at hk
    have hc := hk.1
    unfold clsOk at hc
    simp only [Bool.and_eq_true, decide_eq_true_eq] at hc
    rw [List.length_cons] at hl
    obtain ⟨L, hL, hn, hb⟩ := one_some out i (by omega) c.f0 ho hc.1.1.1 hc.1.1.2
    have ho2 : okOut (i + 1) (out ++ [L]) := ⟨by rw [List.length_append, ho.1]; rfl, fun M hM => by
      rcases List.mem_append.1 hM with hM | hM
      · exact ⟨(ho.2 M hM).1, fun x hx => by have := (ho.2 M hM).2 x hx; omega⟩
      · rw [List.mem_singleton.1 hM]
        exact ⟨hn, hb⟩⟩
    obtain ⟨r, hr, h2⟩ := lines_some t (i + 1) (out ++ [L]) hk.2 (by omega) ho2
    refine ⟨r, by rw [linesFrom, hL, Option.bind_some, hr], ?_⟩
    rw [List.length_cons, show i + (t.length + 1) = i + 1 + t.length by omega]
    exact h2
/-- Good classes have lines: as many as classes, each thing once, things that are classes. -/
theorem ylines_some (l : List S41) (h : okCls l = true) : ∃ r, impl_ylines.f l = some r ∧ okOut l.length r := by
  have h0 := h
  unfold okCls at h
  rw [Bool.and_eq_true, decide_eq_true_eq] at h
  obtain ⟨r, hr, ho⟩ := lines_some l 0 [] h.2 (by omega) ⟨rfl, fun L hL => by cases hL⟩
  have hsm : ∀ c ∈ l, c.f0.length ≤ 1000 := by
    intro c hc
    obtain ⟨j, hj, rfl⟩ := List.getElem_of_mem hc
    have h5 := okFrom_get l 0 h.2 j hj
    rw [Nat.zero_add] at h5
    unfold clsOk at h5
    simp only [Bool.and_eq_true, decide_eq_true_eq] at h5
    have := pigeon j _ h5.1.1.2 h5.1.1.1
    omega
  refine ⟨r, ?_, by simpa using ho⟩
  unfold impl_ylines.f
  rw [if_pos ⟨h0, hsm⟩, hr]

end Go.Proofs.Ytkclfbmgnhmkhaa.PC
