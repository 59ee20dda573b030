/- What []rune(s) lays and what string(runes) makes of it, over the plain words on UTF-8. Plain law and conversions; no condition beyond those of the theorems. -/
import Derived.Test.YtfgiodolgmfdoaaDoorU8Z
import Derived.Laws.IdiomStrings
import Derived.Laws.Cover4
namespace Go.Proofs.YtfgiodolgmfdoaaDoor.PT
open Go.RowKit Go.Proofs.YtfgiodolgmfdoaaDoorW.PrintWords Go.Proofs.YtfgiodolgmfdoaaDoorW.PrintLast
set_option linter.unusedVariables false
set_option linter.unusedSimpArgs false

theorem convRunes (s : ByteArray) : ∀ (f i : Nat) (acc : Array Value), Conv.runesFrom s f i acc = acc ++ ((runesFrom s f i).map (Value.int .i32)).toArray
  | 0, i, acc => by simp [Conv.runesFrom, runesFrom]
  | f + 1, i, acc => by
    unfold Conv.runesFrom
    rw [runesFrom]
    by_cases h : i < s.size
    · rw [if_pos h, if_pos h]
      simp only
      rw [convRunes s f]
      apply Array.ext'
      simp
    · rw [if_neg h, if_neg h]
      simp

theorem utf8_encode (r : Int) (h : okR r) : (Utf8.encode r).data.toList = Lib.encodeRune r := by
  have h' := h
  unfold okR at h'
  have hv : Utf8.valid r = true := by
    unfold Utf8.valid
    simp only [Bool.or_eq_true, Bool.and_eq_true, decide_eq_true_eq]
    omega
  unfold Utf8.encode
  rw [if_pos hv]
  simp only
  rcases en_bytes r h with ⟨h1, e⟩ | ⟨h1, h2, e⟩ | ⟨h1, h2, e⟩ | ⟨h1, h2, e⟩
  · rw [if_pos (by omega), e]
  · rw [if_neg (by omega), if_pos (by omega), e]
    simp only [show (192 + r / 64).toNat = 192 + r.toNat / 64 by omega, show (128 + r % 64).toNat = 128 + r.toNat % 64 by omega]
    all_goals rfl
  · rw [if_neg (by omega), if_neg (by omega), if_pos (by omega), e]
    simp only [show (224 + r / 4096).toNat = 224 + r.toNat / 4096 by omega, show (128 + r / 64 % 64).toNat = 128 + r.toNat / 64 % 64 by omega, show (128 + r % 64).toNat = 128 + r.toNat % 64 by omega]
    all_goals rfl
  · rw [if_neg (by omega), if_neg (by omega), if_neg (by omega), e]
    simp only [show (240 + r / 262144).toNat = 240 + r.toNat / 262144 by omega, show (128 + r / 4096 % 64).toNat = 128 + r.toNat / 4096 % 64 by omega, show (128 + r / 64 % 64).toNat = 128 + r.toNat / 64 % 64 by omega, show (128 + r % 64).toNat = 128 + r.toNat % 64 by omega]
    all_goals rfl

theorem runesBytes_go (R : List Int) (h : ∀ r ∈ R, okR r) : ∀ b : ByteArray, (R.foldl (fun r n => r ++ Utf8.encode n) b).data.toList = b.data.toList ++ enAll R := by
  induction R with
  | nil => intro b; simp [enAll]
  | cons r R ih =>
    intro b
    rw [List.foldl_cons, ih (fun x hx => h x (List.mem_cons_of_mem _ hx)), enAll, ← List.append_assoc]
    congr 1
    rw [← utf8_encode r (h r List.mem_cons_self)]
    simp [ByteArray.append_eq, ByteArray.data_append]

theorem runesBytes_en (R : List Int) (h : ∀ r ∈ R, okR r) : runesBytes R = ⟨(enAll R).toArray⟩ := by
  apply ByteArray.ext
  apply Array.ext'
  unfold runesBytes
  rw [runesBytes_go R h]
  rfl

end Go.Proofs.YtfgiodolgmfdoaaDoor.PT
