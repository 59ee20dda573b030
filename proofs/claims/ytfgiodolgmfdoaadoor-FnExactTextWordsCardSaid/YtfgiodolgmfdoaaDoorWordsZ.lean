/- The reference's words, against the shelf's. Plain law; no condition beyond those of the theorems. -/
import Derived.Test.YtfgiodolgmfdoaaDoorPTx3
import Derived.Test.YtfgiodolgmfdoaaDoorPureText
import Derived.Test.YtfgiodolgmfdoaaDoorJoinZ
import Derived.Lib.FieldsP
namespace Go.Proofs.YtfgiodolgmfdoaaDoor.PT
open Go.RowKit Go.Proofs.YtfgiodolgmfdoaaDoorW.PrintWords Go.Proofs.YtfgiodolgmfdoaaDoorW.PrintLast
set_option linter.unusedVariables false
set_option linter.unusedSimpArgs false

theorem get_B (s : ByteArray) (i : Nat) : (s.get! i).toNat = B s i := by
  unfold B
  rw [List.getD_eq_getElem?_getD]
  show (s.data[i]!).toNat = _
  rw [getElem!_def]
  simp only [Array.getElem?_toList]
  cases s.data[i]? <;> rfl

/-- The four blanks. -/
def isW (x : Nat) : Bool := x == 32 || x == 9 || x == 10 || x == 13

/-- The spans of the words, byte by byte. -/
def wsB (s : ByteArray) : Nat → Nat → Option Nat → List (Nat × Nat) → List (Nat × Nat)
  | _, 0, st, acc => match st with
    | some a => acc ++ [(a, s.size)]
    | none => acc
  | pos, d + 1, st, acc =>
    if isW (B s pos) = true then (match st with
      | some a => wsB s (pos + 1) d none (acc ++ [(a, pos)])
      | none => wsB s (pos + 1) d none acc)
    else (match st with
      | some a => wsB s (pos + 1) d (some a) acc
      | none => wsB s (pos + 1) d (some pos) acc)

theorem isW_hi (x : Nat) (h : 128 ≤ x) : isW x = false := by
  unfold isW
  simp only [Bool.or_eq_false_iff, beq_eq_false_iff_ne]
  omega

theorem wsB_skip (s : ByteArray) (a : Nat) (acc : List (Nat × Nat)) : ∀ (n pos d : Nat), (∀ j, j < n → 128 ≤ B s (pos + j)) → n ≤ d → wsB s pos d (some a) acc = wsB s (pos + n) (d - n) (some a) acc
  | 0, pos, d, _, _ => rfl
  | n + 1, pos, d, h, hd => by
    obtain ⟨d, rfl⟩ : ∃ m, d = m + 1 := ⟨d - 1, by omega⟩
    have h0 := isW_hi _ (h 0 (by omega))
    rw [Nat.add_zero] at h0
    rw [wsB, if_neg (by rw [h0]; decide)]
    show wsB s (pos + 1) d (some a) acc = _
    rw [wsB_skip s a acc n (pos + 1) d (fun j hj => by have := h (j + 1) (by omega); rwa [show pos + (j + 1) = pos + 1 + j by omega] at this) (by omega)]
    rw [show pos + 1 + n = pos + (n + 1) by omega, show d + 1 - (n + 1) = d - n by omega]

theorem wsB_open (s : ByteArray) (pos d : Nat) (acc : List (Nat × Nat)) (h : 128 ≤ B s pos) : wsB s pos (d + 1) none acc = wsB s (pos + 1) d (some pos) acc := by
  rw [wsB, if_neg (by rw [isW_hi _ h]; decide)]

/-- A rune's bytes: one below 128, or all from 128 on. -/
theorem rune_bytes (s : ByteArray) (pos : Nat) (h : pos < s.size) :
    (B s pos < 128 ∧ Utf8.decode s pos = (B s pos, 1)) ∨
    (128 ≤ (Utf8.decode s pos).1 ∧ 1 ≤ (Utf8.decode s pos).2 ∧ pos + (Utf8.decode s pos).2 ≤ s.size ∧ ∀ j, j < (Utf8.decode s pos).2 → 128 ≤ B s (pos + j)) := by
  rw [Lib.decode_at]
  have hB : ∀ i, (s.get! i).toNat = B s i := get_B s
  rw [hB, hB, hB, hB]
  have hlt : ∀ i, B s i < 256 := fun i => by unfold B; exact UInt8.toNat_lt _
  generalize hN : s.size - pos = N
  have hb0 := hlt pos
  unfold Lib.decodeN
  have key : ∀ (c n : Nat), 128 ≤ c → 1 ≤ n → n ≤ N → 128 ≤ B s pos → (2 ≤ n → 128 ≤ B s (pos + 1)) → (3 ≤ n → 128 ≤ B s (pos + 2)) → (4 ≤ n → 128 ≤ B s (pos + 3)) → n ≤ 4 →
      (128 ≤ ((c, n) : Nat × Nat).1 ∧ 1 ≤ ((c, n) : Nat × Nat).2 ∧ pos + ((c, n) : Nat × Nat).2 ≤ s.size ∧ ∀ j, j < ((c, n) : Nat × Nat).2 → 128 ≤ B s (pos + j)) := by
    intro c n h1 h2 h3 h4 h5 h6 h7 h8
    refine ⟨h1, h2, by simp only; omega, fun j hj => ?_⟩
    simp only at hj
    match j, hj with
    | 0, _ => exact h4
    | 1, hj => exact h5 (by omega)
    | 2, hj => exact h6 (by omega)
    | 3, hj => exact h7 (by omega)
    | (j + 4), hj => omega
  by_cases c0 : B s pos < 128
  · left
    rw [if_pos c0]
    exact ⟨c0, rfl⟩
  · right
    rw [if_neg c0]
    repeat' split
    all_goals exact key _ _ (by omega) (by omega) (by omega) (by omega) (by omega) (by omega) (by omega) (by omega)

theorem spans_bytes (s : ByteArray) : ∀ (f pos d : Nat) (st : Option Nat) (acc : List (Nat × Nat)), pos + d = s.size → d ≤ f → Lib.closeSpans s (Lib.spansFromP isW s f pos st acc) = wsB s pos d st acc
  | 0, pos, d, st, acc, h, hf => by
    obtain rfl : d = 0 := by omega
    rw [Lib.spansFromP_end _ _ _ _ _ _ (by omega)]
    unfold Lib.closeSpans wsB
    rfl
  | f + 1, pos, 0, st, acc, h, hf => by
    rw [Lib.spansFromP_end _ _ _ _ _ _ (by omega)]
    unfold Lib.closeSpans wsB
    rfl
  | f + 1, pos, d + 1, st, acc, h, hf => by
    unfold Lib.spansFromP
    rw [if_pos (by omega)]
    rcases rune_bytes s pos (by omega) with ⟨h1, h2⟩ | ⟨h1, h2, h3, h4⟩
    · rw [h2]
      unfold wsB
      simp only
      split
      · cases st with
        | none => exact spans_bytes s f (pos + 1) d _ _ (by omega) (by omega)
        | some a => exact spans_bytes s f (pos + 1) d _ _ (by omega) (by omega)
      · cases st with
        | none => exact spans_bytes s f (pos + 1) d _ _ (by omega) (by omega)
        | some a => exact spans_bytes s f (pos + 1) d _ _ (by omega) (by omega)
    · rw [if_neg (by rw [isW_hi _ h1]; decide)]
      generalize (Utf8.decode s pos).2 = n at *
      have hn0 := h4 0 (by omega)
      rw [Nat.add_zero] at hn0
      cases st with
      | none =>
        simp only
        rw [spans_bytes s f (pos + n) (d + 1 - n) _ _ (by omega) (by omega)]
        rw [wsB_open s pos d acc hn0, wsB_skip s pos acc (n - 1) (pos + 1) d (fun j hj => by have := h4 (j + 1) (by omega); rwa [show pos + (j + 1) = pos + 1 + j by omega] at this) (by omega)]
        rw [show pos + 1 + (n - 1) = pos + n by omega, show d - (n - 1) = d + 1 - n by omega]
      | some a =>
        simp only
        rw [spans_bytes s f (pos + n) (d + 1 - n) _ _ (by omega) (by omega), wsB_skip s a acc n pos (d + 1) h4 (by omega)]

def wordsM (s : ByteArray) : List ByteArray := if okB s = true then (wsB s 0 s.size none []).map fun x => s.extract x.1 x.2 else []

theorem goFields_words (s : ByteArray) : Lib.goFieldsP isW s = (wsB s 0 s.size none []).map fun x => s.extract x.1 x.2 := by
  unfold Lib.goFieldsP Lib.spansOfP
  rw [spans_bytes s s.size 0 s.size none [] (by omega) (Nat.le_refl _)]

/-! ### the reference's loop -/
theorem blank_some (x : Int) (n : Nat) (h : x = (n : Int)) : spec_l3Blank.f x = some (isW n) := by
  unfold spec_l3Blank.f isW
  subst h
  by_cases h1 : n = 32
  · subst h1; rfl
  · rw [if_neg (by omega)]
    by_cases h2 : n = 9
    · subst h2; rfl
    · rw [if_neg (by omega)]
      by_cases h3 : n = 10
      · subst h3; rfl
      · rw [if_neg (by omega)]
        congr 1
        simp only [beq_eq_false_iff_ne.2 h1, beq_eq_false_iff_ne.2 h2, beq_eq_false_iff_ne.2 h3, Bool.false_or]
        by_cases h4 : n = 13
        · subst h4; rfl
        · rw [beq_eq_false_iff_ne.2 h4, beq_eq_false_iff_ne.2 (by omega)]

/-- The word that is open. -/
def curW (s : ByteArray) (st : Option Nat) (pos : Nat) : List Int := match st with
  | none => []
  | some a => toN ((s.data.toList.drop a).take (pos - a))

theorem curW_len (s : ByteArray) (a pos : Nat) (h : a ≤ pos) (hp : pos ≤ s.size) : (curW s (some a) pos).length = pos - a := by
  have hd : s.data.toList.length = s.size := data_length s
  simp only [curW, toN_length, List.length_take, List.length_drop, hd]
  omega

theorem curW_next (s : ByteArray) (a pos : Nat) (h : a ≤ pos) (hp : pos < s.size) : curW s (some a) pos ++ [bt s (pos : Int)] = curW s (some a) (pos + 1) := by
  have hd : s.data.toList.length = s.size := data_length s
  unfold curW
  have : (s.data.toList.drop a).take (pos + 1 - a) = (s.data.toList.drop a).take (pos - a) ++ [s.data.toList[pos]'(by omega)] := by
    rw [show pos + 1 - a = (pos - a) + 1 by omega, List.take_add_one, List.getElem?_drop, show a + (pos - a) = pos by omega, List.getElem?_eq_getElem (by omega)]
    rfl
  simp only
  rw [this, toN_append]
  congr 1
  simp only [toN, List.map_cons, List.map_nil, List.cons.injEq, and_true]
  unfold bt
  rw [dif_pos (by simpa using hp)]
  simp
  rfl

theorem curW_str (s : ByteArray) (a pos : Nat) (hp : pos ≤ s.size) : strOfNums (curW s (some a) pos) = s.extract a pos := by
  unfold curW
  simp only
  rw [str_toN]
  apply ByteArray.ext
  rw [← Array.toList_inj]
  simp only [ext_data s a pos hp]

theorem words_loop (s : ByteArray) (hs : s.size ≤ 16384) (d : Nat) : ∀ (k pos : Nat) (st : Option Nat) (acc : List (Nat × Nat)), pos + d = s.size → acc.length ≤ pos → 3 * d + 10 < k → (∀ a, st = some a → a < pos) →
    spec_TextWords.l0 k s (acc.map fun x => s.extract x.1 x.2) (curW s st pos) (pos : Int) = some ((wsB s pos d st acc).map fun x => s.extract x.1 x.2) := by
  induction d with
  | zero =>
    intro k pos st acc h1 ha hk hst
    obtain ⟨k, rfl⟩ : ∃ q, k = q + 3 := ⟨k - 3, by omega⟩
    obtain rfl : pos = s.size := by omega
    rw [spec_TextWords.l0, if_pos (by omega), if_neg (by omega), spec_TextWords.j1, if_neg (by decide)]
    cases st with
    | none =>
      rw [show curW s none s.size = [] from rfl, if_neg (by simp), wrap_in ((s.size : Int) + 1) (by omega) (by omega), spec_TextWords.l0, if_neg (by omega)]
      rfl
    | some a =>
      have := hst a rfl
      rw [if_pos (by rw [curW_len s a s.size (by omega) (Nat.le_refl _)]; omega), if_pos (by rw [List.length_map]; omega), wrap_in ((s.size : Int) + 1) (by omega) (by omega), spec_TextWords.l0, if_neg (by omega), curW_str s a s.size (Nat.le_refl _)]
      unfold wsB
      simp
  | succ d ih =>
    intro k pos st acc h1 ha hk hst
    obtain ⟨k, rfl⟩ : ∃ q, k = q + 2 := ⟨k - 2, by omega⟩
    rw [spec_TextWords.l0, if_pos (by omega), if_pos (by omega), if_pos (by omega), blank_some _ (B s pos) (bt_B s pos), Option.bind_some, spec_TextWords.j1, wrap_in ((pos : Int) + 1) (by omega) (by omega)]
    have e1 : (pos : Int) + 1 = ((pos + 1 : Nat) : Int) := by omega
    rw [e1]
    by_cases hw : isW (B s pos) = true
    · rw [hw, if_neg (by decide)]
      unfold wsB
      rw [if_pos hw]
      cases st with
      | none =>
        rw [show curW s none pos = [] from rfl, if_neg (by simp)]
        exact ih k (pos + 1) none acc (by omega) (by omega) (by omega) (fun a h => by cases h)
      | some a =>
        have := hst a rfl
        rw [if_pos (by rw [curW_len s a pos (by omega) (by omega)]; omega), if_pos (by rw [List.length_map]; omega), curW_str s a pos (by omega)]
        have hn := ih k (pos + 1) none (acc ++ [(a, pos)]) (by omega) (by rw [List.length_append]; simp only [List.length_singleton]; omega) (by omega) (fun a h => by cases h)
        rw [List.map_append] at hn
        exact hn
    · obtain hw2 : isW (B s pos) = false := by simpa using hw
      rw [hw2, if_pos (by decide), if_pos (by omega), if_pos (by omega)]
      unfold wsB
      rw [if_neg hw]
      cases st with
      | none =>
        rw [show curW s none pos = [] from rfl, if_pos (by simp)]
        have e : ([] : List Int) ++ [bt s (pos : Int)] = curW s (some pos) (pos + 1) := by
          rw [← curW_next s pos pos (Nat.le_refl _) (by omega)]
          simp [curW, toN]
        rw [e]
        exact ih k (pos + 1) (some pos) acc (by omega) (by omega) (by omega) (fun a h => by cases h; omega)
      | some a =>
        have := hst a rfl
        rw [if_pos (by rw [curW_len s a pos (by omega) (by omega)]; omega), curW_next s a pos (by omega) (by omega)]
        exact ih k (pos + 1) (some a) acc (by omega) (by omega) (by omega) (fun b h => by cases h; omega)

theorem specWords (s : ByteArray) : spec_TextWords.f 500000 s = some (wordsM s) := by
  unfold spec_TextWords.f wordsM
  rw [Option.bind_some, specOk s 500000 (by omega), Option.bind_some]
  by_cases h : okB s = true
  · rw [if_pos h, if_pos h]
    have hs := okB_size h
    exact words_loop s hs s.size 500000 0 none [] (by omega) (by simp) (by omega) (fun a h => by cases h)
  · rw [if_neg h, if_neg h]

theorem wsB_len (s : ByteArray) : ∀ (d pos : Nat) (st : Option Nat) (acc : List (Nat × Nat)), (wsB s pos d st acc).length ≤ acc.length + d + 1
  | 0, pos, st, acc => by
    unfold wsB
    cases st <;> simp
  | d + 1, pos, st, acc => by
    unfold wsB
    split
    · cases st with
      | none => have := wsB_len s d (pos + 1) none acc; simp only; omega
      | some a =>
        have := wsB_len s d (pos + 1) none (acc ++ [(a, pos)])
        rw [List.length_append, List.length_singleton] at this
        simp only
        omega
    · cases st with
      | none => have := wsB_len s d (pos + 1) (some pos) acc; simp only; omega
      | some a => have := wsB_len s d (pos + 1) (some a) acc; simp only; omega

theorem wordsM_len (s : ByteArray) : (wordsM s).length ≤ 16385 := by
  unfold wordsM
  by_cases h : okB s = true
  · rw [if_pos h, List.length_map]
    have := wsB_len s s.size 0 none []
    have := okB_size h
    simp only [List.length_nil] at *
    omega
  · rw [if_neg h]
    simp

end Go.Proofs.YtfgiodolgmfdoaaDoor.PT
