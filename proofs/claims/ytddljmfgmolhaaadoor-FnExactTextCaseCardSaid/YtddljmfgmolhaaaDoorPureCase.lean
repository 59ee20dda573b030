/- What the reference's TextCase comes to: what the program's comes to. Plain law; no condition beyond those of the theorems. -/
import Derived.Test.YtddljmfgmolhaaaDoorGCase
import Derived.Test.YtddljmfgmolhaaaDoorPureText
namespace Go.Proofs.YtddljmfgmolhaaaDoor.PT
open Go.RowKit Go.Proofs.YtddljmfgmolhaaaDoorW.PrintWords Go.Proofs.YtddljmfgmolhaaaDoorW.PrintLast
set_option linter.unusedVariables false

theorem bt_at (s : ByteArray) (i : Nat) : bt s (i : Int) = (bytesOf s).getD i 0 := by
  rw [← rd_bytesOf]
  simp [rd]

theorem take_more (how : Int) (L : List Int) (i : Nat) (hi : i < L.length) : (L.take i).map (up how) ++ [up how (L.getD i 0)] = (L.take (i + 1)).map (up how) := by
  rw [List.take_add_one, List.map_append]
  simp [List.getD_eq_getElem?_getD, List.getElem?_eq_getElem hi]

theorem case_loop (s : ByteArray) (how : Int) (hs : s.size ≤ 16384) (d : Nat) : ∀ (k i : Nat), i + d = s.size → 2 * d < k → spec_TextCase.l0 k s how (((bytesOf s).take i).map (up how)) i = some (strOfNums ((bytesOf s).map (up how))) := by
  induction d with
  | zero =>
    intro k i h1 h2
    obtain ⟨k, rfl⟩ : ∃ q, k = q + 1 := ⟨k - 1, by omega⟩
    rw [spec_TextCase.l0, if_neg (by omega), List.take_of_length_le (by rw [bytesOf_length]; omega)]
  | succ d ih =>
    intro k i h1 h2
    obtain ⟨k, rfl⟩ : ∃ q, k = (q + 1) + 1 := ⟨k - 2, by omega⟩
    have hn := ih k (i + 1) (by omega) (by omega)
    have hl : i < (bytesOf s).length := by rw [bytesOf_length]; omega
    have hln : (((bytesOf s).take i).map (up how)).length ≤ 16384 := by rw [List.length_map, List.length_take]; omega
    rw [← take_more how _ i hl] at hn
    have hr := bytesOf_rng s i
    have HW : Aside0 (wrap64 ((i : Int) + 1) = ((i + 1 : Nat) : Int)) := ⟨by rw [wrap_in _ (by omega) (by omega)]; omega⟩
    rw [spec_TextCase.l0, if_pos (by omega), if_pos (by omega), bt_at]
    generalize (bytesOf s).getD i 0 = c at *
    by_cases k1 : how = 1
    · rw [if_pos k1]
      by_cases c1 : c ≥ 97
      · rw [if_pos c1, spec_TextCase.j2]
        by_cases c2 : c ≤ 122
        · rw [decide_eq_true c2, if_pos rfl, if_pos (by omega), HW.out, show (c - 32) % 256 = up how c by unfold up; rw [if_pos ⟨k1, c1, c2⟩]; omega]
          exact hn
        · rw [decide_eq_false c2, if_neg (by decide), if_neg (by omega), if_pos (by omega), HW.out]
          rw [show up how c = c by unfold up; rw [if_neg (by omega), if_neg (by omega)]] at hn
          exact hn
      · rw [if_neg c1, spec_TextCase.j2, if_neg (by decide), if_neg (by omega), if_pos (by omega), HW.out]
        rw [show up how c = c by unfold up; rw [if_neg (by omega), if_neg (by omega)]] at hn
        exact hn
    · rw [if_neg k1, spec_TextCase.j2, if_neg (by decide)]
      by_cases k2 : how = 2
      · rw [if_pos k2]
        by_cases c1 : c ≥ 65
        · rw [if_pos c1]
          by_cases c2 : c ≤ 90
          · rw [if_pos c2, if_pos (by omega), HW.out, show (c + 32) % 256 = up how c by unfold up; rw [if_neg (by omega), if_pos ⟨k2, c1, c2⟩]; omega]
            exact hn
          · rw [if_neg c2, if_pos (by omega), HW.out]
            rw [show up how c = c by unfold up; rw [if_neg (by omega), if_neg (by omega)]] at hn
            exact hn
        · rw [if_neg c1, if_pos (by omega), HW.out]
          rw [show up how c = c by unfold up; rw [if_neg (by omega), if_neg (by omega)]] at hn
          exact hn
      · rw [if_neg k2, if_pos (by omega), HW.out]
        rw [show up how c = c by unfold up; rw [if_neg (by omega), if_neg (by omega)]] at hn
        exact hn

theorem specCase (s : ByteArray) (how : Int) : spec_TextCase.f 500000 s how = some (caseB s how) := by
  unfold spec_TextCase.f caseB
  rw [specOk s 500000 (by omega), Option.bind_some]
  have j0t : spec_TextCase.j0 500000 s how true = some ⟨#[]⟩ := by
    rw [show (500000 : Nat) = 499999 + 1 from rfl, spec_TextCase.j0, if_pos rfl]
  by_cases h : okB s = true
  · have h2 := (okB_iff s).1 h
    rw [if_pos h]
    by_cases c1 : how < 1
    · rw [if_pos c1, j0t, if_neg (by omega)]
    · rw [if_neg c1]
      by_cases c2 : how > 2
      · rw [decide_eq_true c2, j0t, if_neg (by omega)]
      · rw [decide_eq_false c2, if_pos ⟨h, by omega⟩, show (500000 : Nat) = 499999 + 1 from rfl, spec_TextCase.j0, if_neg (by decide)]
        have := case_loop s how h2.1 s.size 499999 0 (by omega) (by omega)
        simpa using this
  · rw [if_neg h, j0t, if_neg (fun hh => h hh.1)]

end Go.Proofs.YtddljmfgmolhaaaDoor.PT
