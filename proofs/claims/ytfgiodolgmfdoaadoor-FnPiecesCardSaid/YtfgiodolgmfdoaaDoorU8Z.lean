/- Valid texts as rows of code points, each with its bytes. Plain law; no condition beyond those of the theorems. -/
import Derived.Test.YtfgiodolgmfdoaaDoorPureText
import Derived.Lib.MapLaws
import Derived.Laws.IdiomStrings
import Derived.Laws.Cover4
namespace Go.Proofs.YtfgiodolgmfdoaaDoor.PT
open Go.RowKit Go.Proofs.YtfgiodolgmfdoaaDoorW.PrintWords Go.Proofs.YtfgiodolgmfdoaaDoorW.PrintLast
set_option linter.unusedVariables false
set_option linter.unusedSimpArgs false

/-- A code point. -/
def okR (r : Int) : Prop := (0 ≤ r ∧ r < 55296) ∨ (57344 ≤ r ∧ r ≤ 1114111)
/-- The bytes of a row of code points. -/
def enAll : List Int → List UInt8
  | [] => []
  | r :: R => Lib.encodeRune r ++ enAll R
theorem enAll_append (a b : List Int) : enAll (a ++ b) = enAll a ++ enAll b := by
  induction a with
  | nil => rfl
  | cons r a ih => rw [List.cons_append, enAll, enAll, ih, List.append_assoc]

theorem tb (n : Int) (h0 : 0 ≤ n) (h1 : n < 256) : (n.toNat.toUInt8).toNat = n.toNat := by
  show (UInt8.ofNat n.toNat).toNat = n.toNat
  rw [UInt8.toNat_ofNat']
  omega

theorem en_bytes (r : Int) (h : okR r) :
    (r < 128 ∧ Lib.encodeRune r = [r.toNat.toUInt8]) ∨
    (128 ≤ r ∧ r < 2048 ∧ Lib.encodeRune r = [(192 + r / 64).toNat.toUInt8, (128 + r % 64).toNat.toUInt8]) ∨
    (2048 ≤ r ∧ r < 65536 ∧ Lib.encodeRune r = [(224 + r / 4096).toNat.toUInt8, (128 + r / 64 % 64).toNat.toUInt8, (128 + r % 64).toNat.toUInt8]) ∨
    (65536 ≤ r ∧ r ≤ 1114111 ∧ Lib.encodeRune r = [(240 + r / 262144).toNat.toUInt8, (128 + r / 4096 % 64).toNat.toUInt8, (128 + r / 64 % 64).toNat.toUInt8, (128 + r % 64).toNat.toUInt8]) := by
  unfold okR at h
  unfold Lib.encodeRune
  by_cases h1 : r < 128
  · exact .inl ⟨h1, by rw [Lib.encodeRuneZ_one (by omega) (by omega)]; rfl⟩
  · by_cases h2 : r < 2048
    · exact .inr (.inl ⟨by omega, h2, by rw [Lib.encodeRuneZ_two (by omega) (by omega)]; rfl⟩)
    · by_cases h3 : r < 65536
      · exact .inr (.inr (.inl ⟨by omega, h3, by rw [Lib.encodeRuneZ_three (by omega)]; rfl⟩))
      · exact .inr (.inr (.inr ⟨by omega, by omega, by rw [Lib.encodeRuneZ_four (by omega) (by omega)]; rfl⟩))

/-- No byte of it but the first goes on one ahead. -/
theorem en_shape (r : Int) (h : okR r) : ∃ b t, Lib.encodeRune r = b :: t ∧ (b.toNat < 128 ∨ 192 ≤ b.toNat) ∧ (∀ x ∈ t, 128 ≤ x.toNat ∧ x.toNat < 192) ∧ t.length ≤ 3 := by
  have h' := h
  unfold okR at h'
  rcases en_bytes r h with ⟨h1, e⟩ | ⟨h1, h2, e⟩ | ⟨h1, h2, e⟩ | ⟨h1, h2, e⟩
  · refine ⟨_, _, e, ?_, by simp, by simp⟩
    rw [tb _ (by omega) (by omega)]
    omega
  · refine ⟨_, _, e, ?_, ?_, by simp⟩
    · rw [tb _ (by omega) (by omega)]
      omega
    · intro x hx
      rw [List.mem_singleton] at hx
      rw [hx, tb _ (by omega) (by omega)]
      omega
  · refine ⟨_, _, e, ?_, ?_, by simp⟩
    · rw [tb _ (by omega) (by omega)]
      omega
    · intro x hx
      simp only [List.mem_cons, List.not_mem_nil, or_false] at hx
      rcases hx with hx | hx <;> rw [hx, tb _ (by omega) (by omega)] <;> omega
  · refine ⟨_, _, e, ?_, ?_, by simp⟩
    · rw [tb _ (by omega) (by omega)]
      omega
    · intro x hx
      simp only [List.mem_cons, List.not_mem_nil, or_false] at hx
      rcases hx with hx | hx | hx <;> rw [hx, tb _ (by omega) (by omega)] <;> omega

theorem decode_en (r : Int) (h : okR r) (v : List UInt8) : Lib.decodeL (Lib.encodeRune r ++ v) = (r.toNat, (Lib.encodeRune r).length) := by
  have h' := h
  unfold okR at h'
  rw [Lib.decodeL_N]
  rcases en_bytes r h with ⟨h1, e⟩ | ⟨h1, h2, e⟩ | ⟨h1, h2, e⟩ | ⟨h1, h2, e⟩
  · rw [e]
    simp only [List.cons_append, List.nil_append, List.getD_cons_zero, List.length_cons, List.length_nil]
    rw [tb _ (by omega) (by omega)]
    unfold Lib.decodeN
    rw [if_pos (by omega)]
  · rw [e]
    simp only [List.cons_append, List.nil_append, List.getD_cons_zero, List.getD_cons_succ, List.length_cons, List.length_nil]
    rw [tb _ (by omega) (by omega), tb _ (by omega) (by omega)]
    unfold Lib.decodeN
    rw [if_neg (by omega), if_pos (by omega), if_pos (by omega)]
    congr 1
    omega
  · rw [e]
    simp only [List.cons_append, List.nil_append, List.getD_cons_zero, List.getD_cons_succ, List.length_cons, List.length_nil]
    rw [tb _ (by omega) (by omega), tb _ (by omega) (by omega), tb _ (by omega) (by omega)]
    unfold Lib.decodeN
    rw [if_neg (by omega), if_neg (by omega), if_pos (by omega), if_pos (by omega)]
    congr 1
    omega
  · rw [e]
    simp only [List.cons_append, List.nil_append, List.getD_cons_zero, List.getD_cons_succ, List.length_cons, List.length_nil]
    rw [tb _ (by omega) (by omega), tb _ (by omega) (by omega), tb _ (by omega) (by omega), tb _ (by omega) (by omega)]
    unfold Lib.decodeN
    rw [if_neg (by omega), if_neg (by omega), if_neg (by omega), if_pos (by omega), if_pos (by omega)]
    congr 1
    omega

theorem en_pos (r : Int) (h : okR r) : 1 ≤ (Lib.encodeRune r).length := by
  obtain ⟨b, t, e, _⟩ := en_shape r h
  rw [e]
  simp

theorem en_ne (r : Int) (h : okR r) (v : List UInt8) : Lib.encodeRune r ++ v ≠ [] := by
  obtain ⟨b, t, e, _⟩ := en_shape r h
  rw [e]
  simp

theorem en_good (r : Int) (h : okR r) (v : List UInt8) : ¬ ((Lib.decodeL (Lib.encodeRune r ++ v)).1 = 65533 ∧ (Lib.decodeL (Lib.encodeRune r ++ v)).2 = 1) := by
  rw [decode_en r h]
  have h' := h
  unfold okR at h'
  rintro ⟨h1, h2⟩
  simp only at h1 h2
  rcases en_bytes r h with ⟨c1, e⟩ | ⟨c1, c2, e⟩ | ⟨c1, c2, e⟩ | ⟨c1, c2, e⟩
  · omega
  · rw [e] at h2; simp at h2
  · rw [e] at h2; simp at h2
  · rw [e] at h2; simp at h2

theorem validD_en (R : List Int) (h : ∀ r ∈ R, okR r) : Lib.validD (enAll R) = true := by
  induction R with
  | nil => rfl
  | cons r R ih =>
    have hr := h r List.mem_cons_self
    rw [enAll, Lib.validD_step _ (en_ne r hr _), if_neg (en_good r hr _), decode_en r hr, List.drop_left]
    exact ih (fun x hx => h x (List.mem_cons_of_mem _ hx))

/-- A valid row of bytes is that of a row of code points. -/
theorem runes_of : ∀ (n : Nat) (l : List UInt8), l.length ≤ n → Lib.validD l = true → ∃ R, (∀ r ∈ R, okR r) ∧ l = enAll R
  | n, [], _, _ => ⟨[], by simp, rfl⟩
  | 0, b :: t, h, _ => by simp at h
  | n + 1, b :: t, h, hv => by
    have hne : (b :: t) ≠ [] := by simp
    rw [Lib.validD_step _ hne] at hv
    split at hv
    · cases hv
    · rename_i hg
      have he := Lib.encode_decode _ hne hg
      have hw := Lib.decodeL_width (b :: t)
      obtain ⟨R, hR, e⟩ := runes_of n ((b :: t).drop (Lib.decodeL (b :: t)).2) (by rw [List.length_drop]; simp only [List.length_cons] at h ⊢; omega) hv
      have hok : okR ((Lib.decodeL (b :: t)).1 : Int) := by
        unfold okR
        have k0 := ((b :: t).getD 0 0).toNat_lt
        rw [Lib.decodeL_N] at hg ⊢
        rcases Lib.decodeN_shape (b :: t).length ((b :: t).getD 0 0).toNat ((b :: t).getD 1 0).toNat ((b :: t).getD 2 0).toNat ((b :: t).getD 3 0).toNat with ⟨c, e⟩ | ⟨c1, c2, c3, cv, e⟩ | ⟨c1, c2, c3, c4, cv, cs, e⟩ | ⟨c1, c2, c3, c4, c5, cv, cw, e⟩ | e
        · rw [e]; simp only; omega
        · rw [e]; simp only; omega
        · rw [e]; simp only; omega
        · rw [e]; simp only; omega
        · rw [e]; simp only; omega
      refine ⟨((Lib.decodeL (b :: t)).1 : Int) :: R, fun r hr => ?_, ?_⟩
      · rcases List.mem_cons.1 hr with hr | hr
        · rw [hr]
          exact hok
        · exact hR r hr
      · rw [enAll, ← e, he, List.take_append_drop]

theorem runesFrom_en (s : ByteArray) : ∀ (R : List Int) (f pos : Nat), (∀ r ∈ R, okR r) → s.data.toList.drop pos = enAll R → (enAll R).length ≤ f → runesFrom s f pos = R
  | [], f, pos, _, h, _ => by
    have hd : s.data.toList.length = s.size := data_length s
    have h1 := congrArg List.length h
    rw [List.length_drop, hd] at h1
    simp only [enAll, List.length_nil] at h1
    cases f with
    | zero => rfl
    | succ f => rw [runesFrom, if_neg (by omega)]
  | r :: R, f, pos, hR, h, hf => by
    have hd : s.data.toList.length = s.size := data_length s
    have hr := hR r List.mem_cons_self
    have hp := en_pos r hr
    have h1 := congrArg List.length h
    rw [List.length_drop, hd] at h1
    simp only [enAll, List.length_append] at h1 hf
    obtain ⟨f, rfl⟩ : ∃ q, f = q + 1 := ⟨f - 1, by omega⟩
    have hdec : Utf8.decode s pos = (r.toNat, (Lib.encodeRune r).length) := by
      rw [← Lib.decodeL_drop, h, enAll, decode_en r hr]
    have hnx : s.data.toList.drop (pos + (Lib.encodeRune r).length) = enAll R := by
      rw [← List.drop_drop, h, enAll, List.drop_left]
    have h0 : 0 ≤ r := by unfold okR at hr; omega
    rw [runesFrom, if_pos (by omega), hdec]
    simp only
    rw [runesFrom_en s R f _ (fun x hx => hR x (List.mem_cons_of_mem _ hx)) hnx (by omega), Int.toNat_of_nonneg h0]

/-- What lies in the bytes of code points. -/
structure Of (s : ByteArray) (R : List Int) : Prop where
  ok : ∀ r ∈ R, okR r
  eq : s.data.toList = enAll R

theorem Of.runes {s : ByteArray} {R : List Int} (h : Of s R) : runesFrom s s.size 0 = R :=
  runesFrom_en s R s.size 0 h.ok (by rw [List.drop_zero]; exact h.eq) (by rw [← h.eq, data_length]; exact Nat.le_refl _)
theorem Of.valid {s : ByteArray} {R : List Int} (h : Of s R) : Lib.validD s.data.toList = true := by
  rw [h.eq]
  exact validD_en R h.ok
theorem Of.count {s : ByteArray} {R : List Int} (h : Of s R) (hs : s.size ≤ 16384) : Lib.runeCount s = R.length := by
  rw [← runes_count s hs h.valid, h.runes]
theorem Of.size {s : ByteArray} {R : List Int} (h : Of s R) : s.size = (enAll R).length := by
  rw [← data_length, h.eq]
theorem Of.make (R : List Int) (h : ∀ r ∈ R, okR r) : Of ⟨(enAll R).toArray⟩ R := ⟨h, rfl⟩
theorem okB_of {s : ByteArray} (h : okB s = true) : ∃ R, Of s R := by
  obtain ⟨h1, h2⟩ := (okB_iff s).1 h
  obtain ⟨R, hR, e⟩ := runes_of s.data.toList.length s.data.toList (Nat.le_refl _) h2
  exact ⟨R, hR, e⟩
theorem Of.spec {s : ByteArray} {R : List Int} (h : Of s R) (hs : s.size ≤ 16384) (k : Nat) (hk : 400000 ≤ k) : spec_l3Runes.f k s = some (R, true) := by
  rw [runes_some s k hk, if_pos ⟨hs, h.valid⟩, h.runes]
theorem enAll_len (R : List Int) (h : ∀ r ∈ R, okR r) : R.length ≤ (enAll R).length := by
  induction R with
  | nil => simp
  | cons r R ih =>
    have := ih (fun x hx => h x (List.mem_cons_of_mem _ hx))
    have := en_pos r (h r List.mem_cons_self)
    rw [enAll, List.length_append, List.length_cons]
    omega

/-- A place at which a byte stands that goes on none ahead is a code point's. -/
theorem cut_en : ∀ (R : List Int) (k : Nat) (b : UInt8), (∀ r ∈ R, okR r) → (enAll R)[k]? = some b → (b.toNat < 128 ∨ 192 ≤ b.toNat) → ∃ m, m ≤ R.length ∧ (enAll R).take k = enAll (R.take m)
  | [], k, b, _, h, _ => by simp [enAll] at h
  | r :: R, k, b, hR, h, hb => by
    by_cases h0 : k = 0
    · subst h0
      exact ⟨0, by omega, by simp [enAll]⟩
    · have hr := hR r List.mem_cons_self
      obtain ⟨b0, t, e, _, ht, _⟩ := en_shape r hr
      have hle : (Lib.encodeRune r).length ≤ k := by
        refine Classical.byContradiction fun hh => ?_
        rw [enAll, List.getElem?_append_left (by omega), e] at h
        obtain ⟨k, rfl⟩ : ∃ q, k = q + 1 := ⟨k - 1, by omega⟩
        rw [List.getElem?_cons_succ] at h
        have := ht b (List.mem_of_getElem? h)
        omega
      rw [enAll, List.getElem?_append_right hle] at h
      obtain ⟨m, hm, e2⟩ := cut_en R _ b (fun x hx => hR x (List.mem_cons_of_mem _ hx)) h hb
      refine ⟨m + 1, by simp only [List.length_cons]; omega, ?_⟩
      rw [List.take_succ_cons, enAll, enAll, List.take_append, e2, List.take_of_length_le hle]

/-- The bytes that go on none ahead. -/
def leads (l : List UInt8) : Nat := (l.filter fun b => decide (b.toNat < 128) || decide (192 ≤ b.toNat)).length
theorem leads_append (a b : List UInt8) : leads (a ++ b) = leads a + leads b := by simp [leads]
theorem leads_none (t : List UInt8) (h : ∀ x ∈ t, 128 ≤ x.toNat ∧ x.toNat < 192) : leads t = 0 := by
  unfold leads
  rw [List.length_eq_zero_iff, List.filter_eq_nil_iff]
  intro x hx
  have := h x hx
  simp only [Bool.or_eq_true, decide_eq_true_eq]
  omega
theorem leads_en (R : List Int) (h : ∀ r ∈ R, okR r) : leads (enAll R) = R.length := by
  induction R with
  | nil => rfl
  | cons r R ih =>
    have hr := h r List.mem_cons_self
    obtain ⟨b0, t, e, hb, ht, _⟩ := en_shape r hr
    rw [enAll, leads_append, ih (fun x hx => h x (List.mem_cons_of_mem _ hx)), e, show b0 :: t = [b0] ++ t from rfl, leads_append, leads_none t ht, List.length_cons]
    have : leads [b0] = 1 := by
      unfold leads
      rw [List.filter_cons_of_pos (by simp only [Bool.or_eq_true, decide_eq_true_eq]; exact hb)]
      rfl
    omega

theorem en_le4 (r : Int) (h : okR r) : (Lib.encodeRune r).length ≤ 4 := by
  obtain ⟨b, t, e, _, _, h3⟩ := en_shape r h
  rw [e, List.length_cons]
  omega

theorem enAll_le (R : List Int) (h : ∀ r ∈ R, okR r) : (enAll R).length ≤ 4 * R.length := by
  induction R with
  | nil => simp [enAll]
  | cons r R ih =>
    have := ih (fun x hx => h x (List.mem_cons_of_mem _ hx))
    have := en_le4 r (h r List.mem_cons_self)
    rw [enAll, List.length_append, List.length_cons]
    omega


end Go.Proofs.YtfgiodolgmfdoaaDoor.PT
