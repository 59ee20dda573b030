/- The reference's ClassesOk as a plain function, and the laws' copies and comparisons of classes. Plain law; no condition beyond those of the theorems. -/
import Derived.Test.YtkclfbmgnhmkhaaPCx4
namespace Go.Proofs.Ytkclfbmgnhmkhaa.PC
open Go.RowKit Go.Proofs.YtkclfbmgnhmkhaaW.PrintWords Go.Proofs.YtkclfbmgnhmkhaaW.PrintLast
set_option linter.unusedVariables false
set_option linter.unusedSimpArgs false

theorem wrap_in (i : Int) (h0 : -9223372036854775808 ≤ i) (h1 : i ≤ 9223372036854775807) : wrap64 i = i := by
  unfold wrap64
  omega
theorem toL (a b : ByteArray) : a.toList = b.toList ↔ a = b := by
  rw [ByteArray.toList_eq, ByteArray.toList_eq]
  exact ⟨fun h => by apply ByteArray.ext; exact Array.toList_inj.1 h, fun h => by rw [h]⟩

/-- As many different numbers below i as i at most. -/
theorem pigeon : ∀ (i : Nat) (bs : List Int), bs.Nodup → (∀ b ∈ bs, 0 ≤ b ∧ b < (i : Int)) → bs.length ≤ i
  | 0, bs, _, h => by
    cases bs with
    | nil => simp
    | cons b t => have := h b List.mem_cons_self; omega
  | i + 1, bs, hn, h => by
    by_cases hm : (i : Int) ∈ bs
    · have h1 := pigeon i (bs.erase (i : Int)) (hn.erase _) (fun b hb => by
        have := (hn.mem_erase_iff).1 hb
        have h2 := h b this.2
        have h3 := this.1
        omega)
      rw [List.length_erase_of_mem hm] at h1
      omega
    · have h1 := pigeon i bs hn (fun b hb => by
        have h2 := h b hb
        have h3 : b ≠ (i : Int) := fun e => hm (e ▸ hb)
        omega)
      omega

/-- Attributes that are right: other names all, no more than 100, and of known kinds where that is asked. -/
def attrsB (kinds : Bool) (l : List S48) : Bool := decide ((namesOf l).Nodup ∧ l.length ≤ 100) && (!kinds || decide (∀ a ∈ l, 0 ≤ a.f1 ∧ a.f1 ≤ 2))

theorem attr_l1 (l : List S48) (x1 : Bool) (j : Nat) (hj : j < l.length) (hl : l.length ≤ 1000) (d : Nat) : ∀ (k q : Nat), q + d = j → d < k → (∀ t, t < q → (namesOf l)[t]? ≠ (namesOf l)[j]?) →
    spec_l9AttrsOk.l1 k l x1 (j : Int) (q : Int) = if (∃ t, t < j ∧ (namesOf l)[t]? = (namesOf l)[j]?) then some false else spec_l9AttrsOk.l0 (k - d - 1) l x1 ((j + 1 : Nat) : Int) := by
  induction d with
  | zero =>
    intro k q h1 h2 h3
    obtain ⟨k, rfl⟩ : ∃ m, k = m + 1 := ⟨k - 1, by omega⟩
    rw [spec_l9AttrsOk.l1, if_neg (by omega), wrap_in _ (by omega) (by omega), if_neg (by rintro ⟨t, ht, e⟩; exact h3 t (by omega) e)]
    rfl
  | succ d ih =>
    intro k q h1 h2 h3
    obtain ⟨k, rfl⟩ : ∃ m, k = m + 1 := ⟨k - 1, by omega⟩
    have hq : q < l.length := by omega
    rw [spec_l9AttrsOk.l1, if_pos (by omega), if_pos (by omega), if_pos (by omega), if_pos (by omega), if_pos (by omega), rd48 l q hq, rd48 l j hj, wrap_in _ (by omega) (by omega)]
    have eq_ : (namesOf l)[q]? = some l[q].f0 := by simp [namesOf, hq]
    have ej_ : (namesOf l)[j]? = some l[j].f0 := by simp [namesOf, hj]
    by_cases he : l[q].f0 = l[j].f0
    · rw [if_pos ((toL _ _).2 he), if_pos ⟨q, by omega, by rw [eq_, ej_, he]⟩]
    · rw [if_neg (fun hh => he ((toL _ _).1 hh))]
      have h4 := ih k (q + 1) (by omega) (by omega) (fun t ht => by
        by_cases e : t = q
        · rw [e, eq_, ej_]
          exact fun h => he (Option.some.inj h)
        · exact h3 t (by omega))
      rw [show k + 1 - (d + 1) - 1 = k - d - 1 by omega]
      exact h4

theorem nodup_next (S : List ByteArray) (j : Nat) (hj : j < S.length) (h : (S.take j).Nodup) : (S.take (j + 1)).Nodup ↔ ¬ ∃ t, t < j ∧ S[t]? = S[j]? := by
  rw [take_snoc S j hj, nodup_snoc]
  constructor
  · rintro ⟨_, h2⟩ ⟨t, ht, e⟩
    apply h2
    have : (S.take j)[t]? = some S[j] := by rw [List.getElem?_take, if_pos ht, e, List.getElem?_eq_getElem hj]
    exact List.mem_of_getElem? this
  · intro h2
    refine ⟨h, fun hm => h2 ?_⟩
    obtain ⟨t, ht⟩ := List.mem_iff_getElem?.1 hm
    rw [List.getElem?_take] at ht
    split at ht
    · rename_i hlt
      exact ⟨t, hlt, by rw [ht, List.getElem?_eq_getElem hj]⟩
    · cases ht

theorem names_len (l : List S48) : (namesOf l).length = l.length := by simp [namesOf]
theorem names_takeE (l : List S48) (i : Nat) : (namesOf l).take i = namesOf (l.take i) := by simp [namesOf, List.map_take]

theorem attr_l0 (l : List S48) (x1 : Bool) (hl : l.length ≤ 100) (d : Nat) : ∀ (k j : Nat), j + d = l.length → 200 * (d + 1) ≤ k → ((namesOf l).take j).Nodup → (x1 = true → ∀ a ∈ l.take j, 0 ≤ a.f1 ∧ a.f1 ≤ 2) →
    spec_l9AttrsOk.l0 k l x1 (j : Int) = some (attrsB x1 l) := by
  induction d with
  | zero =>
    intro k j h1 h2 h3 h4
    obtain ⟨k, rfl⟩ : ∃ m, k = m + 1 := ⟨k - 1, by omega⟩
    rw [List.take_of_length_le (by rw [names_len]; omega)] at h3
    rw [List.take_of_length_le (by omega)] at h4
    rw [spec_l9AttrsOk.l0, if_neg (by omega)]
    unfold attrsB
    rw [decide_eq_true (show (namesOf l).Nodup ∧ l.length ≤ 100 from ⟨h3, hl⟩)]
    cases x1 with
    | false => rfl
    | true => rw [decide_eq_true (h4 rfl)]; rfl
  | succ d ih =>
    intro k j h1 h2 h3 h4
    obtain ⟨k, rfl⟩ : ∃ m, k = m + 1 := ⟨k - 1, by omega⟩
    obtain ⟨k, rfl⟩ : ∃ m, k = m + 1 := ⟨k - 1, by omega⟩
    have hj : j < l.length := by omega
    have hgo : (x1 = true → 0 ≤ l[j].f1 ∧ l[j].f1 ≤ 2) → spec_l9AttrsOk.j1 (k + 1) l x1 (j : Int) false = some (attrsB x1 l) := by
      intro hk
      rw [spec_l9AttrsOk.j1, if_neg (by decide)]
      have h5 := attr_l1 l x1 j hj (by omega) j k 0 (by omega) (by omega) (fun t ht => by omega)
      rw [show ((0 : Nat) : Int) = 0 from rfl] at h5
      rw [h5]
      have hnx := nodup_next (namesOf l) j (by rw [names_len]; exact hj) h3
      by_cases he : ∃ t, t < j ∧ (namesOf l)[t]? = (namesOf l)[j]?
      · rw [if_pos he]
        have hno : ¬ ((namesOf l).Nodup ∧ l.length ≤ 100) := fun hh => by
          have h6 : ((namesOf l).take (j + 1)).Nodup := by
            rw [names_takeE]
            exact Classical.byContradiction fun h7 => nodup_take h7 hh.1
          exact hnx.1 h6 he
        unfold attrsB
        rw [decide_eq_false hno]
        rfl
      · rw [if_neg he]
        refine ih _ (j + 1) (by omega) (by omega) (hnx.2 he) (fun hx a ha => ?_)
        rw [take_snoc l j hj] at ha
        rcases List.mem_append.1 ha with ha | ha
        · exact h4 hx a ha
        · rw [List.mem_singleton.1 ha]
          exact hk hx
    have hbad : x1 = true → ¬ (0 ≤ l[j].f1 ∧ l[j].f1 ≤ 2) → some false = some (attrsB x1 l) := fun hx hn => by
      have hno : ¬ (∀ a ∈ l, 0 ≤ a.f1 ∧ a.f1 ≤ 2) := fun hh => hn (hh _ (List.getElem_mem hj))
      unfold attrsB
      rw [hx, decide_eq_false hno]
      simp
    rw [spec_l9AttrsOk.l0, if_pos (by omega)]
    cases x1 with
    | false =>
      rw [if_neg (by decide)]
      exact hgo (fun h => by cases h)
    | true =>
      rw [if_pos rfl, if_pos (by omega), rd48 l j hj]
      by_cases hneg : l[j].f1 < 0
      · rw [if_pos hneg, spec_l9AttrsOk.j1, if_pos rfl]
        exact hbad rfl (fun hh => by omega)
      · rw [if_neg hneg]
        by_cases hbig : l[j].f1 > 2
        · rw [decide_eq_true hbig, spec_l9AttrsOk.j1, if_pos rfl]
          exact hbad rfl (fun hh => by omega)
        · rw [decide_eq_false hbig]
          exact hgo (fun _ => by omega)

theorem attrs_some (l : List S48) (x1 : Bool) (hl : l.length ≤ 1000000000000) (k : Nat) (hk : 30000 ≤ k) : spec_l9AttrsOk.f k l x1 = some (attrsB x1 l) := by
  unfold spec_l9AttrsOk.f
  by_cases h : (l.length : Int) > 100
  · rw [if_pos h]
    have hno : ¬ ((namesOf l).Nodup ∧ l.length ≤ 100) := fun hh => by omega
    unfold attrsB
    rw [decide_eq_false hno]
    rfl
  · rw [if_neg h]
    exact attr_l0 l x1 (by omega) l.length k 0 (by omega) (by omega) (by simp) (fun _ => by simp)

theorem cls_l2 (l : List S41) (i : Int) (bs : List Int) (j : Nat) (hj : j < bs.length) (hl : bs.length ≤ 1000) (d : Nat) : ∀ (k q : Nat), q + d = j → d < k → (∀ t (ht : t < q), bs[t]? ≠ bs[j]?) →
    spec_ClassesOk.l2 k l i bs (j : Int) (q : Int) = if bs[j] ∈ bs.take j then some false else spec_ClassesOk.l1 (k - d - 1) l i bs ((j + 1 : Nat) : Int) := by
  induction d with
  | zero =>
    intro k q h1 h2 h3
    obtain ⟨k, rfl⟩ : ∃ m, k = m + 1 := ⟨k - 1, by omega⟩
    rw [spec_ClassesOk.l2, if_neg (by omega), wrap_in _ (by omega) (by omega), if_neg]
    · rfl
    · intro hm
      obtain ⟨t, ht⟩ := List.mem_iff_getElem?.1 hm
      rw [List.getElem?_take] at ht
      split at ht
      · rename_i hlt
        exact h3 t (by omega) (by rw [ht, List.getElem?_eq_getElem hj])
      · cases ht
  | succ d ih =>
    intro k q h1 h2 h3
    obtain ⟨k, rfl⟩ : ∃ m, k = m + 1 := ⟨k - 1, by omega⟩
    have hq : q < bs.length := by omega
    rw [spec_ClassesOk.l2, if_pos (by omega), if_pos (by omega), if_pos (by omega), if_pos (by omega), if_pos (by omega), rdI bs q hq, rdI bs j hj, wrap_in _ (by omega) (by omega)]
    by_cases he : bs[q] = bs[j]
    · rw [if_pos he, if_pos]
      rw [← he]
      have : (bs.take j)[q]? = some bs[q] := by rw [List.getElem?_take, if_pos (by omega), List.getElem?_eq_getElem hq]
      exact List.mem_of_getElem? this
    · rw [if_neg he]
      have h4 := ih k (q + 1) (by omega) (by omega) (fun t ht => by
        by_cases e : t = q
        · rw [e, List.getElem?_eq_getElem hq, List.getElem?_eq_getElem hj]
          exact fun h => he (Option.some.inj h)
        · exact h3 t (by omega))
      rw [show k + 1 - (d + 1) - 1 = k - d - 1 by omega]
      exact h4

def basesB (i : Nat) (bs : List Int) : Bool := decide (∀ b ∈ bs, 0 ≤ b ∧ b < (i : Int)) && decide bs.Nodup

theorem cls_l1 (l : List S41) (i : Nat) (hi : i < l.length) (hln : l.length ≤ 200) (bs : List Int) (hl : bs.length ≤ 200) (d : Nat) : ∀ (k j : Nat), j + d = bs.length → 210 * (d + 1) ≤ k → (bs.take j).Nodup → (∀ b ∈ bs.take j, 0 ≤ b ∧ b < (i : Int)) →
    ∃ k', k ≤ k' + 210 * (d + 1) ∧ spec_ClassesOk.l1 k l (i : Int) bs (j : Int) = if basesB i bs = true then (spec_l9AttrsOk.f k' l[i].f1 true).bind (fun t => if t = true then spec_ClassesOk.l0 k' l ((i + 1 : Nat) : Int) else some false) else some false := by
  induction d with
  | zero =>
    intro k j h1 h2 h3 h4
    obtain ⟨k, rfl⟩ : ∃ m, k = m + 1 := ⟨k - 1, by omega⟩
    refine ⟨k, by omega, ?_⟩
    rw [List.take_of_length_le (by omega)] at h3 h4
    have hb : basesB i bs = true := by unfold basesB; rw [decide_eq_true h4, decide_eq_true h3]; rfl
    rw [spec_ClassesOk.l1, if_neg (by omega), if_pos (by omega), if_pos (by omega), rd41 l i hi, wrap_in _ (by omega) (by omega), if_pos hb]
    rfl
  | succ d ih =>
    intro k j h1 h2 h3 h4
    obtain ⟨k, rfl⟩ : ∃ m, k = m + 1 := ⟨k - 1, by omega⟩
    obtain ⟨k, rfl⟩ : ∃ m, k = m + 1 := ⟨k - 1, by omega⟩
    have hj : j < bs.length := by omega
    have hbad : ¬ (0 ≤ bs[j] ∧ bs[j] < (i : Int)) → ¬ basesB i bs = true := fun hn hb => by
      unfold basesB at hb
      rw [Bool.and_eq_true, decide_eq_true_eq] at hb
      exact hn (hb.1 _ (List.getElem_mem hj))
    rw [spec_ClassesOk.l1, if_pos (by omega), if_pos (by omega), rdI bs j hj]
    by_cases hneg : bs[j] < 0
    · refine ⟨k, by omega, ?_⟩
      rw [if_pos hneg, spec_ClassesOk.j2, if_pos rfl, if_neg (hbad (fun hh => by omega))]
    · rw [if_neg hneg]
      by_cases hbig : bs[j] ≥ (i : Int)
      · refine ⟨k, by omega, ?_⟩
        rw [decide_eq_true hbig, spec_ClassesOk.j2, if_pos rfl, if_neg (hbad (fun hh => by omega))]
      · rw [decide_eq_false hbig, spec_ClassesOk.j2, if_neg (by decide)]
        have h5 := cls_l2 l i bs j hj (by omega) j k 0 (by omega) (by omega) (fun t ht => by omega)
        rw [show ((0 : Nat) : Int) = 0 from rfl] at h5
        rw [h5]
        by_cases hm : bs[j] ∈ bs.take j
        · refine ⟨k, by omega, ?_⟩
          rw [if_pos hm, if_neg]
          intro hb
          unfold basesB at hb
          rw [Bool.and_eq_true, decide_eq_true_eq, decide_eq_true_eq] at hb
          have h6 : bs = bs.take (j + 1) ++ bs.drop (j + 1) := (List.take_append_drop _ _).symm
          have h7 := hb.2
          rw [h6, List.nodup_append, take_snoc bs j hj] at h7
          exact (nodup_snoc.1 h7.1).2 hm
        · rw [if_neg hm]
          obtain ⟨k', hk', e⟩ := ih (k - j - 1) (j + 1) (by omega) (by omega) (by rw [take_snoc bs j hj]; exact nodup_snoc.2 ⟨h3, hm⟩) (fun b hb => by
            rw [take_snoc bs j hj] at hb
            rcases List.mem_append.1 hb with hb | hb
            · exact h4 b hb
            · rw [List.mem_singleton.1 hb]
              omega)
          exact ⟨k', by omega, e⟩

theorem cls_l0 (l : List S41) (hln : l.length ≤ 200) (hin : ∀ c ∈ l, c.f1.length ≤ 1000000000000) (d : Nat) : ∀ (k i : Nat), i + d = l.length → 100000 * (d + 1) ≤ k → spec_ClassesOk.l0 k l (i : Int) = some (okFrom i (l.drop i)) := by
  induction d with
  | zero =>
    intro k i h1 h2
    obtain ⟨k, rfl⟩ : ∃ m, k = m + 1 := ⟨k - 1, by omega⟩
    rw [spec_ClassesOk.l0, if_neg (by omega), List.drop_of_length_le (by omega)]
    rfl
  | succ d ih =>
    intro k i h1 h2
    obtain ⟨k, rfl⟩ : ∃ m, k = m + 1 := ⟨k - 1, by omega⟩
    have hi : i < l.length := by omega
    rw [spec_ClassesOk.l0, if_pos (by omega), if_pos (by omega), rd41 l i hi, okFrom_drop l i hi]
    by_cases hbig : ((l[i].f0).length : Int) > (i : Int)
    · rw [if_pos hbig]
      have hno : clsOk i l[i] = false := by
        cases hc : clsOk i l[i] with
        | false => rfl
        | true =>
          unfold clsOk at hc
          simp only [Bool.and_eq_true, decide_eq_true_eq] at hc
          have := pigeon i _ hc.1.1.2 hc.1.1.1
          omega
      rw [hno]
      rfl
    · rw [if_neg hbig]
      obtain ⟨k', hk', e⟩ := cls_l1 l i hi hln l[i].f0 (by omega) (l[i].f0).length k 0 (by omega) (by omega) (by simp) (by simp)
      rw [show ((0 : Nat) : Int) = 0 from rfl] at e
      rw [e, attrs_some _ _ (hin _ (List.getElem_mem hi)) k' (by omega), Option.bind_some]
      have hcl : clsOk i l[i] = (basesB i l[i].f0 && attrsB true l[i].f1) := by
        unfold clsOk basesB attrsB
        simp [Bool.and_assoc]
      rw [hcl]
      cases basesB i l[i].f0 with
      | false => rw [if_neg (by decide)]; rfl
      | true =>
        rw [if_pos rfl]
        cases attrsB true l[i].f1 with
        | false => rw [if_neg (by decide)]; rfl
        | true =>
          rw [if_pos rfl, ih k' (i + 1) (by omega) (by omega)]
          rfl

theorem specCls (l : List S41) (hl : l.length ≤ 1000000000000) (hin : ∀ c ∈ l, c.f1.length ≤ 1000000000000) (k : Nat) (hk : 21000000 ≤ k) : spec_ClassesOk.f k l = some (okCls l) := by
  unfold spec_ClassesOk.f okCls
  by_cases h : (l.length : Int) > 200
  · rw [if_pos h, decide_eq_false (by omega)]
    rfl
  · rw [if_neg h, decide_eq_true (by omega)]
    exact cls_l0 l (by omega) hin l.length k 0 (by omega) (by omega)

end Go.Proofs.Ytkclfbmgnhmkhaa.PC
