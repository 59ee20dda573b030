/- The reference's search for a text, in code points. Plain law; no condition beyond those of the theorems. -/
import Derived.Test.YtfgiodolgmfdoaaDoorU8Z
import Derived.Test.YtfgiodolgmfdoaaDoorPTx3
import Derived.Test.YtfgiodolgmfdoaaDoorJoinZ
namespace Go.Proofs.YtfgiodolgmfdoaaDoor.PT
open Go.RowKit Go.Proofs.YtfgiodolgmfdoaaDoorW.PrintWords Go.Proofs.YtfgiodolgmfdoaaDoorW.PrintLast
set_option linter.unusedVariables false
set_option linter.unusedSimpArgs false

theorem mask63 (x : Int) (h0 : 0 ≤ x) (h1 : x < 2097152) : Go.bits .and .i64 x 63 = x % 64 := bits_mask .i64 31 (by decide) wraps_i64 6 (by decide) x h0 (by omega)
theorem or128 (y : Int) (h0 : 0 ≤ y) (h1 : y < 64) : Go.bits .or .i64 128 y = 128 + y := bits_join .i64 31 (by decide) wraps_i64 6 128 y (by omega) (by omega) (by omega) h0 (by omega) (by omega)
theorem or192 (y : Int) (h0 : 0 ≤ y) (h1 : y < 64) : Go.bits .or .i64 192 y = 192 + y := bits_join .i64 31 (by decide) wraps_i64 6 192 y (by omega) (by omega) (by omega) h0 (by omega) (by omega)
theorem or224 (y : Int) (h0 : 0 ≤ y) (h1 : y < 32) : Go.bits .or .i64 224 y = 224 + y := bits_join .i64 31 (by decide) wraps_i64 5 224 y (by omega) (by omega) (by omega) h0 (by omega) (by omega)
theorem or240 (y : Int) (h0 : 0 ≤ y) (h1 : y < 16) : Go.bits .or .i64 240 y = 240 + y := bits_join .i64 31 (by decide) wraps_i64 4 240 y (by omega) (by omega) (by omega) h0 (by omega) (by omega)

theorem toN_tb (n : Int) (h0 : 0 ≤ n) (h1 : n < 256) (l : List UInt8) : toN (n.toNat.toUInt8 :: l) = n :: toN l := by
  unfold toN
  rw [List.map_cons, tb n h0 h1, Int.toNat_of_nonneg h0]

theorem put_some (acc : List Int) (r : Int) (h : okR r) (ha : acc.length ≤ 1000000) : spec_l3Put.f acc r = some (acc ++ toN (Lib.encodeRune r)) := by
  have h' := h
  unfold okR at h'
  unfold spec_l3Put.f
  rcases en_bytes r h with ⟨h1, e⟩ | ⟨h1, h2, e⟩ | ⟨h1, h2, e⟩ | ⟨h1, h2, e⟩
  · rw [if_pos h1, if_pos (by omega), e, toN_tb _ (by omega) (by omega), show r % 256 = r by omega]
    rfl
  · rw [if_neg (by omega), if_pos h2, or192 _ (by omega) (by omega), mask63 r (by omega) (by omega), or128 _ (by omega) (by omega), Option.bind_some, if_pos (by simp only [List.length_cons, List.length_nil]; omega), e, toN_tb _ (by omega) (by omega), toN_tb _ (by omega) (by omega),
      show (192 + r / 64) % 256 = 192 + r / 64 by omega, show (128 + r % 64) % 256 = 128 + r % 64 by omega]
    rfl
  · rw [if_neg (by omega), if_neg (by omega), if_pos h2, or224 _ (by omega) (by omega), mask63 r (by omega) (by omega), mask63 (r / 64) (by omega) (by omega), or128 _ (by omega) (by omega), or128 _ (by omega) (by omega), Option.bind_some, if_pos (by simp only [List.length_cons, List.length_nil]; omega), e, toN_tb _ (by omega) (by omega), toN_tb _ (by omega) (by omega), toN_tb _ (by omega) (by omega),
      show (224 + r / 4096) % 256 = 224 + r / 4096 by omega, show (128 + r / 64 % 64) % 256 = 128 + r / 64 % 64 by omega, show (128 + r % 64) % 256 = 128 + r % 64 by omega]
    rfl
  · rw [if_neg (by omega), if_neg (by omega), if_neg (by omega), or240 _ (by omega) (by omega), mask63 r (by omega) (by omega), mask63 (r / 64) (by omega) (by omega), mask63 (r / 4096) (by omega) (by omega), or128 _ (by omega) (by omega), or128 _ (by omega) (by omega), or128 _ (by omega) (by omega), Option.bind_some, if_pos (by simp only [List.length_cons, List.length_nil]; omega), e, toN_tb _ (by omega) (by omega), toN_tb _ (by omega) (by omega), toN_tb _ (by omega) (by omega), toN_tb _ (by omega) (by omega),
      show (240 + r / 262144) % 256 = 240 + r / 262144 by omega, show (128 + r / 4096 % 64) % 256 = 128 + r / 4096 % 64 by omega, show (128 + r / 64 % 64) % 256 = 128 + r / 64 % 64 by omega, show (128 + r % 64) % 256 = 128 + r % 64 by omega]
    rfl

theorem text_loop (R : List Int) (h : ∀ r ∈ R, okR r) (hn : R.length ≤ 100000) (d : Nat) : ∀ (k i : Nat), R.length = i + d → d < k → spec_l3Text.l0 k R (toN (enAll (R.take i))) (i : Int) = some ⟨(enAll R).toArray⟩ := by
  induction d with
  | zero =>
    intro k i h1 h2
    obtain ⟨k, rfl⟩ : ∃ q, k = q + 1 := ⟨k - 1, by omega⟩
    rw [spec_l3Text.l0, if_neg (by omega), List.take_of_length_le (by omega), str_toN]
  | succ d ih =>
    intro k i h1 h2
    obtain ⟨k, rfl⟩ : ∃ q, k = q + 1 := ⟨k - 1, by omega⟩
    have hi : i < R.length := by omega
    have hrd : rd R (i : Int) = R[i] := by simp [rd, hi]
    have hl := enAll_le (R.take i) (fun r hr => h r (List.mem_of_mem_take hr))
    rw [List.length_take] at hl
    rw [spec_l3Text.l0, if_pos (by omega), if_pos (by omega), hrd, put_some _ _ (h _ (List.getElem_mem hi)) (by rw [toN_length]; omega), Option.bind_some, wrap_in ((i : Int) + 1) (by omega) (by omega), ← toN_append]
    have e : enAll (R.take i) ++ Lib.encodeRune R[i] = enAll (R.take (i + 1)) := by
      rw [List.take_add_one, List.getElem?_eq_getElem hi, enAll_append]
      simp [enAll]
    rw [e]
    exact ih k (i + 1) (by omega) (by omega)

theorem text_some (R : List Int) (h : ∀ r ∈ R, okR r) (hn : R.length ≤ 100000) (k : Nat) (hk : R.length < k) : spec_l3Text.f k R = some ⟨(enAll R).toArray⟩ := by
  unfold spec_l3Text.f
  exact text_loop R h hn R.length k 0 (by omega) hk

theorem leads_snoc (l : List UInt8) (b : UInt8) : leads (l ++ [b]) = leads l + (if b.toNat < 128 ∨ 192 ≤ b.toNat then 1 else 0) := by
  rw [leads_append]
  congr 1
  unfold leads
  by_cases h : b.toNat < 128 ∨ 192 ≤ b.toNat
  · rw [if_pos h, List.filter_cons_of_pos (by simp only [Bool.or_eq_true, decide_eq_true_eq]; exact h)]
    rfl
  · rw [if_neg h, List.filter_cons_of_neg (by simp only [Bool.or_eq_true, decide_eq_true_eq]; exact h)]
    rfl
theorem leads_le (l : List UInt8) : leads l ≤ l.length := List.length_filter_le _ _

theorem len_loop (s : ByteArray) (hs : s.size ≤ 1000000) (d : Nat) : ∀ (k i : Nat), s.size = i + d → d < k → spec_l3Len.l0 k s (leads (s.data.toList.take i) : Nat) (i : Int) = some ((leads s.data.toList : Nat) : Int) := by
  have hd : s.data.toList.length = s.size := data_length s
  induction d with
  | zero =>
    intro k i h1 h2
    obtain ⟨k, rfl⟩ : ∃ q, k = q + 1 := ⟨k - 1, by omega⟩
    rw [spec_l3Len.l0, if_neg (by omega), List.take_of_length_le (by omega)]
  | succ d ih =>
    intro k i h1 h2
    obtain ⟨k, rfl⟩ : ∃ q, k = q + 1 := ⟨k - 1, by omega⟩
    have hi : i < s.data.toList.length := by omega
    have hB : B s i = (s.data.toList[i]).toNat := by unfold B; rw [List.getD_eq_getElem?_getD, List.getElem?_eq_getElem hi]; rfl
    have e : s.data.toList.take (i + 1) = s.data.toList.take i ++ [s.data.toList[i]] := by rw [List.take_add_one, List.getElem?_eq_getElem hi]; rfl
    have hn := ih k (i + 1) (by omega) (by omega)
    rw [e, leads_snoc, ← hB] at hn
    have hle := leads_le (s.data.toList.take i)
    rw [List.length_take] at hle
    rw [spec_l3Len.l0, if_pos (by omega), if_pos (by omega), bt_B, wrap_in ((i : Int) + 1) (by omega) (by omega), wrap_in (((leads (s.data.toList.take i) : Nat) : Int) + 1) (by omega) (by omega)]
    by_cases c1 : B s i < 128
    · rw [if_pos (by omega)]
      rw [if_pos (Or.inl c1)] at hn
      exact hn
    · rw [if_neg (by omega)]
      by_cases c2 : 192 ≤ B s i
      · rw [if_pos (by omega)]
        rw [if_pos (Or.inr c2)] at hn
        exact hn
      · rw [if_neg (by omega)]
        rw [if_neg (by omega)] at hn
        exact hn

theorem len_some (s : ByteArray) (hs : s.size ≤ 1000000) (k : Nat) (hk : s.size < k) : spec_l3Len.f k s = some ((leads s.data.toList : Nat) : Int) := by
  unfold spec_l3Len.f
  exact len_loop s hs s.size k 0 (by omega) hk

/-- What both tell of a search: the code points of s, and where. -/
def restB (s : ByteArray) (F : Nat) : ByteArray := ⟨(enAll ((runesFrom s s.size 0).drop F)).toArray⟩
def findM (s t : ByteArray) (from' : Int) : Int :=
  if okB s = true ∧ okB t = true ∧ ¬ (((runesFrom s s.size 0).length : Int) < max from' 0) then
    (if Lib.indexB (restB s (max from' 0).toNat) t = -1 then -1 else max from' 0 + (Lib.runeCount ((restB s (max from' 0).toNat).extract 0 (Lib.indexB (restB s (max from' 0).toNat) t).toNat) : Nat))
  else -1

theorem find_zero (s t : ByteArray) (ht : t.size = 0) (f : Nat) (hf : f ≤ s.size) (hs : s.size ≤ 16384) (k : Nat) (hk : 1 ≤ k) : spec_l3Find.f k s t (f : Int) = some (f : Int) := by
  obtain ⟨k, rfl⟩ : ∃ q, k = q + 1 := ⟨k - 1, by omega⟩
  unfold spec_l3Find.f
  rw [spec_l3Find.l0, wrap_in ((f : Int) + (t.size : Int)) (by omega) (by omega), if_pos (by omega), if_pos (by omega), if_pos (by omega), if_pos]
  rw [Lib.toList_data, Lib.toList_data, ext_data s _ _ (by omega)]
  have : t.data.toList = [] := List.length_eq_zero_iff.1 (by rw [data_length]; exact ht)
  rw [this]
  rw [show ((f : Int) + (t.size : Int)).toNat - (f : Int).toNat = 0 by omega]
  simp

theorem specFind_one (s t : ByteArray) (hs : okB s = true) (ht : okB t = true) (F : Nat) (hF : F ≤ (runesFrom s s.size 0).length) (k : Nat) (hk : 410000 ≤ k) :
    spec_TextFind.j1 (k + 1) s t (F : Int) (runesFrom s s.size 0) = some (if Lib.indexB (restB s F) t = -1 then -1 else (F : Int) + (Lib.runeCount ((restB s F).extract 0 (Lib.indexB (restB s F) t).toNat) : Nat)) := by
  obtain ⟨R, hO⟩ := okB_of hs
  obtain ⟨T, hT⟩ := okB_of ht
  have hss := okB_size hs
  have hts := okB_size ht
  unfold restB
  rw [hO.runes] at hF ⊢
  have hRl := enAll_len R hO.ok
  rw [← hO.size] at hRl
  have hokT : ∀ r ∈ R.take F, okR r := fun r hr => hO.ok r (List.mem_of_mem_take hr)
  have hokD : ∀ r ∈ R.drop F, okR r := fun r hr => hO.ok r (List.mem_of_mem_drop hr)
  have hsp : enAll R = enAll (R.take F) ++ enAll (R.drop F) := by rw [← enAll_append, List.take_append_drop]
  obtain ⟨off, hoff⟩ : ∃ off, (enAll (R.take F)).length = off := ⟨_, rfl⟩
  have hsz : s.size = off + (enAll (R.drop F)).length := by rw [hO.size, hsp, List.length_append, hoff]
  have hrest : s.extract off s.size = ⟨(enAll (R.drop F)).toArray⟩ := by
    apply ByteArray.ext
    rw [← Array.toList_inj, ext_data s _ _ (Nat.le_refl _), hO.eq, hsp, List.drop_left' hoff]
    simp only
    rw [List.take_of_length_le (by omega)]
  have hOr : Of ⟨(enAll (R.drop F)).toArray⟩ (R.drop F) := Of.make _ hokD
  have hrs : (⟨(enAll (R.drop F)).toArray⟩ : ByteArray).size = s.size - off := by rw [hOr.size]; omega
  rw [spec_TextFind.j1, if_pos (by omega), if_pos (by omega), Int.toNat_natCast, text_some _ hokT (by rw [List.length_take]; omega) k (by rw [List.length_take]; omega), Option.bind_some]
  have hts2 : (⟨(enAll (R.take F)).toArray⟩ : ByteArray).size = off := by simp [ByteArray.size, hoff]
  rw [hts2]
  generalize hX : (⟨(enAll (R.drop F)).toArray⟩ : ByteArray) = X at *
  -- what is found
  have hfind : spec_l3Find.f k s t (off : Int) = some (if Lib.indexB X t = -1 then -1 else (off : Int) + Lib.indexB X t) := by
    by_cases hz : t.size = 0
    · rw [find_zero s t hz off (by omega) hss k (by omega)]
      have : Lib.indexB X t = 0 := by
        have h0 : t.data.toList = [] := List.length_eq_zero_iff.1 (by rw [data_length]; exact hz)
        show Lib.index X.data.toList t.data.toList = 0
        rw [h0, Lib.index_empty]
      rw [this, if_neg (by omega)]
      simp
    · have := find_loop s t hss hts (by omega) off (by omega) (s.size + 1 - off) k off (Nat.le_refl _) (by omega) (by omega) (fun q _ _ => by omega)
      rw [hrest] at this
      exact this
  rcases Lib.indexB_cases X t with hm | ⟨i, hi, hroom⟩
  · rw [hm, if_pos rfl] at hfind
    rw [hfind, Option.bind_some, hm, if_pos rfl, if_pos (by decide)]
  · rw [hi, if_neg (by omega)] at hfind
    rw [hfind, Option.bind_some, hi, if_neg (by omega), if_pos (by omega), if_pos (by omega), if_neg (by omega), Int.toNat_natCast, show ((off : Int) + (i : Int)).toNat = off + i by omega]
    rw [len_some _ (by rw [ByteArray.size_extract]; omega) k (by rw [ByteArray.size_extract]; omega), Option.bind_some]
    -- the place is a code point's
    obtain ⟨m, hm, hcut⟩ : ∃ m, m ≤ (R.drop F).length ∧ (enAll (R.drop F)).take i = enAll ((R.drop F).take m) := by
      by_cases hz : t.size = 0
      · have h0 : t.data.toList = [] := List.length_eq_zero_iff.1 (by rw [data_length]; exact hz)
        have h1 : Lib.indexB X t = 0 := by
          show Lib.index X.data.toList t.data.toList = 0
          rw [h0, Lib.index_empty]
        obtain rfl : i = 0 := by omega
        exact ⟨0, by omega, by simp [enAll]⟩
      · have hocc := occ_of_index t.data.toList X.data.toList i hi
        cases T with
        | nil => exact absurd (by rw [hT.size]; rfl) hz
        | cons q T =>
          have hq := hT.ok q List.mem_cons_self
          obtain ⟨b, tl, he, hb, _⟩ := en_shape q hq
          have ht0 : t.data.toList = b :: (tl ++ enAll T) := by rw [hT.eq, enAll, he]; rfl
          unfold Lib.occAt at hocc
          obtain ⟨u, hu⟩ := List.isPrefixOf_iff_prefix.1 hocc
          have hbi : (enAll (R.drop F))[i]? = some b := by
            have h1 : (X.data.toList.drop i)[0]? = some b := by rw [← hu, ht0]; rfl
            rw [List.getElem?_drop, Nat.add_zero] at h1
            rw [← hX] at h1
            exact h1
          exact cut_en (R.drop F) i b hokD hbi hb
    have hpre : Of (X.extract 0 i) ((R.drop F).take m) := ⟨fun r hr => hokD r (List.mem_of_mem_take hr), by
      rw [ext_data X 0 i (by omega), List.drop_zero, Nat.sub_zero, ← hX]
      exact hcut⟩
    have hcnt := hpre.count (by rw [ByteArray.size_extract]; omega)
    rw [hcnt]
    have hall : (s.extract 0 (off + i)).data.toList = enAll (R.take F ++ (R.drop F).take m) := by
      rw [ext_data s 0 _ (by omega), List.drop_zero, Nat.sub_zero, hO.eq, hsp, List.take_append, List.take_of_length_le (by omega), hoff, Nat.add_sub_cancel_left, hcut, enAll_append]
    rw [hall, leads_en _ (fun r hr => by
      rcases List.mem_append.1 hr with hr | hr
      · exact hokT r hr
      · exact hokD r (List.mem_of_mem_take hr))]
    rw [List.length_append, List.length_take, Nat.min_eq_left hF]
    congr 1

theorem specFind (s t : ByteArray) (from' : Int) : spec_TextFind.f 500000 s t from' = some (findM s t from') := by
  unfold spec_TextFind.f findM
  have j0 : ∀ (k : Nat) (x7 : List Int), spec_TextFind.j0 (k + 1) s t from' x7 true = some (-1) := fun k x7 => by rw [spec_TextFind.j0, if_pos rfl]
  by_cases h : okB s = true
  · obtain ⟨R, hO⟩ := okB_of h
    have hs := okB_size h
    rw [hO.spec hs 500000 (by omega), Option.bind_some]
    dsimp only
    rw [if_pos rfl, specOk t 500000 (by omega), Option.bind_some]
    have hR := hO.runes
    by_cases g : okB t = true
    · rw [if_pos g]
      by_cases c : (R.length : Int) < from'
      · rw [show decide (from' > (R.length : Int)) = true by simpa using c, show (500000 : Nat) = 499999 + 1 from rfl, j0, if_neg (fun hh => hh.2.2 (by rw [hR]; omega))]
      · have hc : okB s = true ∧ okB t = true ∧ ¬ (((runesFrom s s.size 0).length : Int) < max from' 0) := ⟨h, g, by rw [hR]; omega⟩
        rw [show decide (from' > (R.length : Int)) = false by simpa using c, show (500000 : Nat) = 499999 + 1 from rfl, spec_TextFind.j0, if_neg (by decide), if_pos hc, show (499999 : Nat) = 499998 + 1 from rfl]
        by_cases z : from' < 0
        · rw [if_pos z]
          have := specFind_one s t h g 0 (by omega) 499998 (by omega)
          rw [hR] at this
          rw [show max from' 0 = ((0 : Nat) : Int) by omega]
          exact this
        · rw [if_neg z]
          have := specFind_one s t h g from'.toNat (by rw [hR]; omega) 499998 (by omega)
          rw [hR] at this
          rw [show max from' 0 = ((from'.toNat : Nat) : Int) by omega]
          rw [show (from'.toNat : Int) = from' by omega] at this ⊢
          exact this
    · rw [if_neg g, show (500000 : Nat) = 499999 + 1 from rfl, j0, if_neg (fun hh => g hh.2.1)]
  · have hk : spec_l3Runes.f 500000 s = some ([], false) := by
      rw [runes_some s 500000 (by omega), if_neg (fun hh => h ((okB_iff s).2 hh))]
    rw [hk, Option.bind_some]
    dsimp only
    rw [if_neg (by decide), show (500000 : Nat) = 499999 + 1 from rfl, j0, if_neg (fun hh => h hh.1)]

end Go.Proofs.YtfgiodolgmfdoaaDoor.PT
