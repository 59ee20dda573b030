/- The reference's join and replace, against the shelf's. Plain law; no condition beyond those of the theorems. -/
import Derived.Test.YtfgiodolgmfdoaaDoorPTx5
import Derived.Test.YtfgiodolgmfdoaaDoorSplitZ
import Derived.Lib.Replace
import Derived.Lib.Join
namespace Go.Proofs.YtfgiodolgmfdoaaDoor.PT
open Go.RowKit Go.Proofs.YtfgiodolgmfdoaaDoorW.PrintWords Go.Proofs.YtfgiodolgmfdoaaDoorW.PrintLast
set_option linter.unusedVariables false
set_option linter.unusedSimpArgs false

def toN (l : List UInt8) : List Int := l.map (fun b => (b.toNat : Int))
theorem bytesOf_toN (x : ByteArray) : bytesOf x = toN x.data.toList := by
  unfold bytesOf toN
  simp
theorem toN_append (a b : List UInt8) : toN (a ++ b) = toN a ++ toN b := by simp [toN]
theorem toN_length (a : List UInt8) : (toN a).length = a.length := by simp [toN]
theorem str_toN (l : List UInt8) : strOfNums (toN l) = ⟨l.toArray⟩ := by
  have : (toN l).map (fun n => UInt8.ofNat n.toNat) = l := by
    unfold toN
    rw [List.map_map]
    conv => rhs; rw [← List.map_id l]
    apply List.map_congr_left
    intro b _
    simp
  unfold strOfNums
  rw [this]

theorem join_tail (sep : ByteArray) : ∀ (l : List ByteArray) (i : Nat) (a : List UInt8), i ≠ 0 → a.length ≤ 16384 →
    ∃ m, joinR sep i (toN a) l = toN m ∧ ((a ++ Lib.joinTail sep.data.toList (l.map (·.data.toList))).length ≤ 16384 → m = a ++ Lib.joinTail sep.data.toList (l.map (·.data.toList))) ∧
      (16384 < (a ++ Lib.joinTail sep.data.toList (l.map (·.data.toList))).length → 16384 < m.length)
  | [], i, a, hi, ha => ⟨a, rfl, fun _ => by simp [Lib.joinTail], fun h => by simp [Lib.joinTail] at h; omega⟩
  | x :: r, i, a, hi, ha => by
    have e : ahead sep i (toN a) ++ bytesOf x = toN (a ++ (sep.data.toList ++ x.data.toList)) := by
      unfold ahead
      rw [if_neg hi, bytesOf_toN, bytesOf_toN, toN_append, toN_append, List.append_assoc]
    have t : Lib.joinTail sep.data.toList ((x :: r).map (·.data.toList)) = (sep.data.toList ++ x.data.toList) ++ Lib.joinTail sep.data.toList (r.map (·.data.toList)) := by
      simp [Lib.joinTail]
    rw [t]
    simp only [joinR]
    generalize sep.data.toList ++ x.data.toList = q at e ⊢
    rw [e, ← List.append_assoc a q]
    by_cases h : 16384 < (toN (a ++ q)).length
    · rw [if_pos h]
      rw [toN_length] at h
      refine ⟨_, rfl, fun h2 => ?_, fun _ => h⟩
      rw [List.length_append] at h2
      omega
    · rw [if_neg h]
      rw [toN_length] at h
      exact join_tail sep r (i + 1) _ (by omega) (by omega)

theorem join_all (sep : ByteArray) (l : List ByteArray) : ∃ m, joinR sep 0 [] l = toN m ∧
    ((Lib.join (l.map (·.data.toList)) sep.data.toList).length ≤ 16384 → m = Lib.join (l.map (·.data.toList)) sep.data.toList) ∧
      (16384 < (Lib.join (l.map (·.data.toList)) sep.data.toList).length → 16384 < m.length) := by
  cases l with
  | nil => exact ⟨[], rfl, fun _ => rfl, fun h => by simp [Lib.join_nil] at h⟩
  | cons x r =>
    rw [List.map_cons, Lib.join_cons]
    have e : ahead sep 0 [] ++ bytesOf x = toN x.data.toList := by rw [bytesOf_toN]; rfl
    simp only [joinR]
    rw [e]
    by_cases h : 16384 < (toN x.data.toList).length
    · rw [if_pos h]
      rw [toN_length] at h
      refine ⟨_, rfl, fun h2 => ?_, fun _ => h⟩
      rw [List.length_append] at h2
      omega
    · rw [if_neg h]
      rw [toN_length] at h
      exact join_tail sep r 1 _ (by omega) (by omega)

/-- What the reference's join, brought to its length, tells. -/
theorem join_fit (sep : ByteArray) (l : List ByteArray) (h0 : sep.size ≤ 1000000) (h1 : ∀ x ∈ l, x.size ≤ 1000000) (h2 : l.length ≤ 2000000) :
    ((spec_l3Join.f sep l).bind fun t => (spec_l3Fit.f t).bind fun b => some (b.1, b.2)) =
      some (if 16384 < (Lib.join (l.map (·.data.toList)) sep.data.toList).length then (⟨#[]⟩, 3) else (⟨(Lib.join (l.map (·.data.toList)) sep.data.toList).toArray⟩, 0)) := by
  obtain ⟨m, hm, ha, hb⟩ := join_all sep l
  unfold spec_l3Join.f
  rw [if_pos ⟨h0, h1, h2⟩, Option.bind_some, hm, str_toN]
  unfold spec_l3Fit.f
  have hs : (⟨m.toArray⟩ : ByteArray).size = m.length := by simp [ByteArray.size]
  by_cases h : 16384 < (Lib.join (l.map (·.data.toList)) sep.data.toList).length
  · have := hb h
    rw [if_pos h, hs, if_pos (by omega), Option.bind_some]
  · have := ha (by omega)
    subst this
    rw [if_neg h, hs, if_neg (by omega), Option.bind_some]

/-! ### replacing is joining the pieces -/
theorem occ_of_index (sub : List UInt8) : ∀ (s : List UInt8) (i : Nat), Lib.index s sub = (i : Int) → Lib.occAt s sub i = true
  | [], i, h => by
    unfold Lib.index at h
    split at h
    · obtain rfl : i = 0 := by omega
      rename_i he
      simp only [List.isEmpty_iff] at he
      subst he
      rfl
    · omega
  | b :: l, i, h => by
    unfold Lib.index at h
    split at h
    · obtain rfl : i = 0 := by omega
      rename_i hp
      exact hp
    · split at h
      · omega
      · have hge := Lib.index_ge l sub
        obtain ⟨j, rfl⟩ : ∃ j, i = j + 1 := ⟨i - 1, by
          rename_i h1 h2
          have : ¬ Lib.index l sub = -1 := fun e => h2 (beq_iff_eq.2 e)
          omega⟩
        exact occ_of_index sub l j (by omega)

theorem cut_at (s sub : List UInt8) (i : Nat) (h : Lib.index s sub = (i : Int)) : ∃ t, s.drop i = sub ++ t ∧ s.drop (i + sub.length) = t := by
  have ho := occ_of_index sub s i h
  unfold Lib.occAt at ho
  obtain ⟨t, ht⟩ := List.isPrefixOf_iff_prefix.1 ho
  refine ⟨t, ht.symm, ?_⟩
  rw [← List.drop_drop, ← ht, List.drop_left]

theorem join_splitK (old by' : List UInt8) : ∀ (k : Nat) (s : List UInt8), Lib.join (Lib.splitK old 0 k s) by' = Lib.replaceK old by' k s
  | 0, s => by rw [Lib.splitK, Lib.join_one, Lib.replaceK]
  | k + 1, s => by
    rw [Lib.splitK, Lib.replaceK]
    split
    · rw [Lib.join_one]
    · have ih := join_splitK old by' k (s.drop ((Lib.index s old).toNat + old.length))
      rw [Lib.join_cons, ← ih]
      cases hS : Lib.splitK old 0 k (s.drop ((Lib.index s old).toNat + old.length)) with
      | nil =>
        exfalso
        cases k with
        | zero => simp [Lib.splitK] at hS
        | succ k => rw [Lib.splitK] at hS; split at hS <;> simp at hS
      | cons y r =>
        rw [Lib.join_cons]
        simp [Lib.joinTail, List.append_assoc]

theorem replaceK_len (old by' : List UInt8) (h1 : old ≠ []) : ∀ (k : Nat) (s : List UInt8), Lib.count s old = k → (Lib.replaceK old by' k s).length + k * old.length = s.length + k * by'.length
  | 0, s, _ => by simp [Lib.replaceK]
  | k + 1, s, h => by
    obtain ⟨i, hi⟩ := Lib.index_of_count (s := s) (old := old) (by omega)
    have hc := Lib.count_hit h1 hi
    have ih := replaceK_len old by' h1 k (s.drop (i + old.length)) (by omega)
    obtain ⟨t, ht, ht2⟩ := cut_at s old i hi
    rw [Lib.replaceK_hit old by' k s i hi]
    rw [ht2] at ih ⊢
    have hl : i + (old.length + t.length) = s.length := by
      have h3 := congrArg List.length ht
      have h4 : i ≤ s.length := by
        refine Classical.byContradiction fun hh => ?_
        rw [List.drop_eq_nil_of_le (by omega)] at ht
        have := congrArg List.length ht
        rw [List.length_append] at this
        have h5 : old.length ≠ 0 := fun e => h1 (List.length_eq_zero_iff.1 e)
        simp at this
        omega
      rw [List.length_drop, List.length_append] at h3
      omega
    have ht3 : (s.take i).length = i := by rw [List.length_take]; omega
    simp only [List.length_append, ht3, Nat.succ_mul]
    omega

theorem replaceK_self (old : List UInt8) : ∀ (k : Nat) (s : List UInt8), Lib.replaceK old old k s = s
  | 0, s => rfl
  | k + 1, s => by
    by_cases hm : Lib.index s old = -1
    · rw [Lib.replaceK, if_pos (beq_iff_eq.2 hm)]
    · have hge := Lib.index_ge s old
      obtain ⟨i, hi⟩ : ∃ i : Nat, Lib.index s old = i := ⟨(Lib.index s old).toNat, by omega⟩
      obtain ⟨t, ht, ht2⟩ := cut_at s old i hi
      rw [Lib.replaceK_hit old old k s i hi, replaceK_self old k, ht2, List.append_assoc, ← ht, List.take_append_drop]

theorem replaceAll_eq (s old by' : List UInt8) : Lib.replaceAll s old by' = Lib.replaceK old by' (Lib.count s old) s := by
  unfold Lib.replaceAll Lib.replace
  split
  · rename_i h
    obtain rfl := beq_iff_eq.1 h
    rw [replaceK_self]
  · unfold Lib.replaceNum
    rw [if_pos (Or.inl (by omega))]

theorem splitB_sizes (sep : ByteArray) (save : Nat) : ∀ (k : Nat) (s : ByteArray), ∀ x ∈ Lib.splitB sep save k s, x.size ≤ s.size
  | 0, s, x, h => by
    rw [Lib.splitB_zero] at h
    simp at h
    rw [h]
    exact Nat.le_refl _
  | k + 1, s, x, h => by
    rw [Lib.splitB] at h
    split at h
    · simp at h
      rw [h]
      exact Nat.le_refl _
    · rcases List.mem_cons.1 h with h | h
      · rw [h, ByteArray.size_extract]
        omega
      · have := splitB_sizes sep save k _ x h
        rw [ByteArray.size_extract] at this
        omega

/-- What both tell of a replacing. -/
def replR (s old by' : ByteArray) : ByteArray × Int :=
  if okB s = true ∧ okB old = true ∧ okB by' = true ∧ ¬ old.size = 0 then
    if (16384 : Int) < (s.size : Int) + (Lib.countB s old : Int) * ((by'.size : Int) - (old.size : Int)) then (⟨#[]⟩, 3)
    else (⟨(Lib.replaceAll s.data.toList old.data.toList by'.data.toList).toArray⟩, 0)
  else (⟨#[]⟩, 1)

theorem data_ne (s : ByteArray) (h : ¬ s.size = 0) : s.data.toList ≠ [] := fun e => h (by rw [← data_length, e]; rfl)

theorem specReplace (s old by' : ByteArray) : spec_TextReplace.f 500000 s old by' = some (replR s old by') := by
  unfold spec_TextReplace.f replR
  rw [specOk s 500000 (by omega), Option.bind_some]
  by_cases h : okB s = true
  · rw [if_pos h, specOk old 500000 (by omega), Option.bind_some]
    by_cases g : okB old = true
    · rw [if_pos g]
      by_cases z : old.size = 0
      · obtain rfl := empty_of old z
        rw [if_pos (by rw [Lib.toList_data]), if_neg (fun hh => hh.2.2.2 z), show (500000 : Nat) = 499999 + 1 from rfl, spec_TextReplace.j0, if_pos rfl]
      · have hn := ne_empty old z
        rw [if_neg (fun e => by rw [e] at hn; simp at hn), specOk by' 500000 (by omega), Option.bind_some, show (500000 : Nat) = 499999 + 1 from rfl, spec_TextReplace.j0]
        by_cases b : okB by' = true
        · have hs := okB_size h
          have ho := okB_size g
          have hb := okB_size b
          have hcl := Lib.countB_le old (by omega) s.size s (Nat.le_refl _)
          have hsl := Lib.splitB_all old (by omega) 0 _ s rfl
          have hsb : ∀ x ∈ Lib.splitB old 0 (Lib.countB s old) s, x.size ≤ 1000000 := by
            intro x hx
            have := splitB_sizes old 0 (Lib.countB s old) s x hx
            omega
          rw [if_neg (by rw [b]; decide), split_some s old hs ho (by omega) 499999 (by omega), Option.bind_some, join_fit by' _ (by omega) hsb (by omega), if_pos (show okB s = true ∧ okB old = true ∧ okB by' = true ∧ ¬ old.size = 0 from ⟨h, g, b, z⟩), Lib.splitB_data, join_splitK]
          have hlen := replaceK_len old.data.toList by'.data.toList (data_ne old z) (Lib.countB s old) s.data.toList rfl
          rw [data_length, data_length, data_length] at hlen
          rw [replaceAll_eq]
          show _ = some (if _ then _ else ((⟨(Lib.replaceK old.data.toList by'.data.toList (Lib.countB s old) s.data.toList).toArray⟩ : ByteArray), (0 : Int)))
          have hz : ((Lib.replaceK old.data.toList by'.data.toList (Lib.countB s old) s.data.toList).length : Int) = (s.size : Int) + (Lib.countB s old : Int) * ((by'.size : Int) - (old.size : Int)) := by
            have h2 : (((Lib.replaceK old.data.toList by'.data.toList (Lib.countB s old) s.data.toList).length + Lib.countB s old * old.size : Nat) : Int) = ((s.size + Lib.countB s old * by'.size : Nat) : Int) := by rw [hlen]
            rw [Int.natCast_add, Int.natCast_add, Int.natCast_mul, Int.natCast_mul] at h2
            rw [Int.mul_sub]
            omega
          rw [← hz]
          by_cases c : 16384 < (Lib.replaceK old.data.toList by'.data.toList (Lib.countB s old) s.data.toList).length
          · rw [if_pos c, if_pos (by omega)]
          · rw [if_neg c, if_neg (by omega)]
        · rw [if_pos (by simpa using b), if_neg (fun hh => b hh.2.2.1)]
    · rw [if_neg g, if_neg (fun hh => g hh.2.1), show (500000 : Nat) = 499999 + 1 from rfl, spec_TextReplace.j0, if_pos rfl]
  · rw [if_neg h, if_neg (fun hh => h hh.1), show (500000 : Nat) = 499999 + 1 from rfl, spec_TextReplace.j0, if_pos rfl]

end Go.Proofs.YtfgiodolgmfdoaaDoor.PT
