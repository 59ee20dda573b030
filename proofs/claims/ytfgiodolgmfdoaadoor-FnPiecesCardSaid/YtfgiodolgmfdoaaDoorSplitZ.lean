/- The reference's split, against the shelf's; and the laws' helpers on rows of texts. Plain law; no condition beyond those of the theorems. -/
import Derived.Test.YtfgiodolgmfdoaaDoorPTx2
import Derived.Test.YtfgiodolgmfdoaaDoorPTx4
import Derived.Test.YtfgiodolgmfdoaaDoorPureText
import Derived.Test.YtfgiodolgmfdoaaDoorGSplit
import Derived.Lib.SplitLaws
import Derived.Lib.IndexLaws
namespace Go.Proofs.YtfgiodolgmfdoaaDoor.PT
open Go.RowKit Go.Proofs.YtfgiodolgmfdoaaDoorW.PrintWords Go.Proofs.YtfgiodolgmfdoaaDoorW.PrintLast
set_option linter.unusedVariables false
set_option linter.unusedSimpArgs false

theorem ext_data (s : ByteArray) (a b : Nat) (hb : b ≤ s.size) : (s.extract a b).data.toList = (s.data.toList.drop a).take (b - a) := by
  rw [ByteArray.data_extract, Array.toList_extract]

theorem occ_iff (s t : ByteArray) (i : Nat) (hi : i + t.size ≤ s.size) : (s.extract i (i + t.size)).toList = t.toList ↔ Lib.occAt s.data.toList t.data.toList i = true := by
  rw [Lib.toList_data, Lib.toList_data, ext_data s _ _ hi, Nat.add_sub_cancel_left]
  unfold Lib.occAt
  rw [List.isPrefixOf_iff_prefix, List.prefix_iff_eq_take]
  have : t.data.toList.length = t.size := data_length t
  rw [this]
  exact ⟨fun h => h.symm, fun h => h.symm⟩

/-- The reference's search from a place: where the shelf's begins. -/
theorem find_loop (s t : ByteArray) (hs : s.size ≤ 16384) (ht : t.size ≤ 16384) (h1 : 1 ≤ t.size) (f : Nat) (hf : f ≤ s.size) (d : Nat) : ∀ (k j : Nat), f ≤ j → j + d = s.size + 1 → d < k →
    (∀ q, f ≤ q → q < j → Lib.occAt s.data.toList t.data.toList q = false) → spec_l3Find.l0 k s t j = some (if Lib.indexB (s.extract f s.size) t = -1 then -1 else (f : Int) + Lib.indexB (s.extract f s.size) t) := by
  have hsl : s.data.toList.length = s.size := data_length s
  have htl : t.data.toList.length = t.size := data_length t
  have hd : (s.extract f s.size).data.toList = s.data.toList.drop f := by
    rw [ext_data s f s.size (Nat.le_refl _)]
    exact List.take_of_length_le (by rw [List.length_drop]; omega)
  have hocc : ∀ q, Lib.occAt (s.data.toList.drop f) t.data.toList q = Lib.occAt s.data.toList t.data.toList (f + q) := by
    intro q
    unfold Lib.occAt
    rw [List.drop_drop]
  have hIB : Lib.indexB (s.extract f s.size) t = Lib.index (s.data.toList.drop f) t.data.toList := by
    show Lib.index _ _ = _
    rw [hd]
  rw [hIB]
  have hpast : ∀ j, f ≤ j → s.size < j + t.size → (∀ q, f ≤ q → q < j → Lib.occAt s.data.toList t.data.toList q = false) → Lib.index (s.data.toList.drop f) t.data.toList = -1 := by
    intro j hj hl hno
    refine Lib.index_past (i := j - f) (by intro e; rw [e] at htl; simp at htl; omega) (fun q hq => ?_) (by rw [List.length_drop]; omega)
    rw [hocc]
    exact hno (f + q) (by omega) (by omega)
  induction d with
  | zero =>
    intro k j hj h2 hk hno
    obtain ⟨k, rfl⟩ : ∃ q, k = q + 1 := ⟨k - 1, by omega⟩
    rw [spec_l3Find.l0, wrap_in ((j : Int) + (t.size : Int)) (by omega) (by omega), if_neg (by omega), hpast j hj (by omega) hno, if_pos rfl]
  | succ d ih =>
    intro k j hj h2 hk hno
    obtain ⟨k, rfl⟩ : ∃ q, k = q + 1 := ⟨k - 1, by omega⟩
    rw [spec_l3Find.l0, wrap_in ((j : Int) + (t.size : Int)) (by omega) (by omega)]
    by_cases hl : j + t.size ≤ s.size
    · rw [if_pos (by omega), if_pos (by omega), if_pos (by omega), Int.toNat_natCast, show ((j : Int) + (t.size : Int)).toNat = j + t.size by omega]
      by_cases ho : Lib.occAt s.data.toList t.data.toList j = true
      · rw [if_pos ((occ_iff s t j hl).2 ho)]
        have : Lib.index (s.data.toList.drop f) t.data.toList = ((j - f : Nat) : Int) := by
          refine Lib.index_first (by rw [List.length_drop]; omega) ?_ (fun q hq => ?_)
          · rw [hocc, show f + (j - f) = j by omega]
            exact ho
          · rw [hocc]
            exact hno (f + q) (by omega) (by omega)
        rw [this, if_neg (by omega)]
        congr 1
        omega
      · rw [if_neg (fun h => ho ((occ_iff s t j hl).1 h)), wrap_in ((j : Int) + 1) (by omega) (by omega)]
        have e1 : (j : Int) + 1 = ((j + 1 : Nat) : Int) := by omega
        rw [e1]
        refine ih k (j + 1) (by omega) (by omega) (by omega) (fun q hq1 hq2 => ?_)
        by_cases e : q = j
        · rw [e]
          simpa using ho
        · exact hno q hq1 (by omega)
    · rw [if_neg (by omega), hpast j hj (by omega) hno, if_pos rfl]

theorem extract_extract (s : ByteArray) (a b c : Nat) (hb : b ≤ s.size - a) : (s.extract a s.size).extract b c = s.extract (a + b) (min (a + c) s.size) := by
  apply ByteArray.ext
  rw [ByteArray.data_extract, ByteArray.data_extract, ByteArray.data_extract, Array.extract_extract]

theorem split_loop (s t : ByteArray) (hs : s.size ≤ 16384) (ht : t.size ≤ 16384) (h1 : 1 ≤ t.size) (c : Nat) : ∀ (k f : Nat) (acc : List ByteArray), f ≤ s.size → acc.length ≤ f → Lib.countB (s.extract f s.size) t = c → 20000 + c < k →
    spec_l3Split.l0 k s t acc f = some (acc ++ Lib.splitB t 0 c (s.extract f s.size)) := by
  induction c with
  | zero =>
    intro k f acc hf ha hc hk
    obtain ⟨k, rfl⟩ : ∃ q, k = q + 1 := ⟨k - 1, by omega⟩
    have hfind := find_loop s t hs ht h1 f hf (s.size + 1 - f) k f (Nat.le_refl _) (by omega) (by omega) (fun q _ _ => by omega)
    have hm : Lib.indexB (s.extract f s.size) t = -1 := by
      rcases Lib.indexB_cases (s.extract f s.size) t with h | ⟨i, h, _⟩
      · exact h
      · have := Lib.countB_hit (s.extract f s.size) t i h1 h
        omega
    rw [hm, if_pos rfl] at hfind
    rw [spec_l3Split.l0]
    unfold spec_l3Find.f
    rw [hfind, Option.bind_some, if_pos (by decide), if_pos (by omega), if_pos (by omega), if_pos (by omega), Int.toNat_natCast, Lib.splitB_zero]
  | succ c ih =>
    intro k f acc hf ha hc hk
    obtain ⟨k, rfl⟩ : ∃ q, k = q + 1 := ⟨k - 1, by omega⟩
    have hfind := find_loop s t hs ht h1 f hf (s.size + 1 - f) k f (Nat.le_refl _) (by omega) (by omega) (fun q _ _ => by omega)
    rcases Lib.indexB_cases (s.extract f s.size) t with h | ⟨i, h, hroom⟩
    · rw [Lib.countB_miss _ _ h] at hc
      omega
    · have hsz : (s.extract f s.size).size = s.size - f := by
        rw [ByteArray.size_extract]
        omega
      rw [hsz] at hroom
      have hcnt := Lib.countB_hit (s.extract f s.size) t i h1 h
      rw [hsz, extract_extract s f (i + t.size) (s.size - f) (by omega), show min (f + (s.size - f)) s.size = s.size by omega] at hcnt
      rw [h, if_neg (by omega)] at hfind
      have hE1 : (s.extract f s.size).extract 0 (i + 0) = s.extract f (f + i) := by
        rw [extract_extract s f 0 (i + 0) (by omega)]
        congr 1 <;> omega
      have hE2 : (s.extract f s.size).extract (i + t.size) (s.extract f s.size).size = s.extract (f + (i + t.size)) s.size := by
        rw [hsz, extract_extract s f (i + t.size) (s.size - f) (by omega)]
        congr 1
        omega
      have hn := ih k (f + (i + t.size)) (acc ++ [s.extract f (f + i)]) (by omega) (by rw [List.length_append]; simp only [List.length_singleton]; omega) (by omega) (by omega)
      rw [Lib.splitB_hit t 0 c _ i h, hE1, hE2]
      rw [spec_l3Split.l0]
      unfold spec_l3Find.f
      rw [hfind, Option.bind_some, if_neg (by omega), if_pos (by omega), if_pos (by omega), if_pos (by omega), if_pos (by omega), wrap_in ((f : Int) + (i : Int) + (t.size : Int)) (by omega) (by omega), Int.toNat_natCast, show ((f : Int) + (i : Int)).toNat = f + i by omega]
      have e2 : (f : Int) + (i : Int) + (t.size : Int) = ((f + (i + t.size) : Nat) : Int) := by omega
      rw [e2, hn]
      simp

theorem split_some (s t : ByteArray) (hs : s.size ≤ 16384) (ht : t.size ≤ 16384) (h1 : 1 ≤ t.size) (k : Nat) (hk : 100000 ≤ k) : spec_l3Split.f k s t = some (Lib.splitB t 0 (Lib.countB s t) s) := by
  have he : s.extract 0 s.size = s := by
    apply ByteArray.ext
    simp [ByteArray.data_extract]
  have hc := Lib.countB_le t h1 s.size s (Nat.le_refl _)
  unfold spec_l3Split.f
  have := split_loop s t hs ht h1 (Lib.countB s t) k 0 [] (by omega) (by simp) (by rw [he]) (by omega)
  rw [he, List.nil_append] at this
  exact this

theorem specSplit (s t : ByteArray) : spec_TextSplit.f 500000 s t = impl_TextSplit.f s t := by
  unfold spec_TextSplit.f impl_TextSplit.f
  rw [specOk s 500000 (by omega), Option.bind_some]
  by_cases h : okB s = true
  · rw [if_pos h, specOk t 500000 (by omega), Option.bind_some]
    by_cases g : okB t = true
    · rw [if_pos g]
      by_cases z : t.size = 0
      · obtain rfl := empty_of t z
        rw [if_pos (by rw [Lib.toList_data]), if_neg (fun hh => hh.2.2 z)]
      · have hn := ne_empty t z
        rw [if_neg (fun e => by rw [e] at hn; simp at hn), if_pos ⟨h, g, z⟩, split_some s t (okB_size h) (okB_size g) (by omega) 500000 (by omega)]
        rfl
    · rw [if_neg g, if_neg (fun hh => g hh.2.1)]
  · rw [if_neg h, if_neg (fun hh => h hh.1)]

end Go.Proofs.YtfgiodolgmfdoaaDoor.PT
