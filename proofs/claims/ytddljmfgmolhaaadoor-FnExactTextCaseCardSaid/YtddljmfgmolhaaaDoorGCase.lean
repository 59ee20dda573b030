/- What TextCase of the program comes to, over the contract of TextOk; and the walk of the law on it. No condition beyond those of the theorems. -/
import Derived.Test.YtddljmfgmolhaaaDoorPTx2
import Derived.Test.YtddljmfgmolhaaaDoorGText
namespace Go.Proofs.YtddljmfgmolhaaaDoor.PT
open Go.RowKit Go.Shelf Go.Proofs.YtddljmfgmolhaaaDoorW.PrintWords Go.Proofs.YtddljmfgmolhaaaDoorW.PrintLast
set_option linter.unusedVariables false
set_option linter.unusedSimpArgs false

/-- A row of bytes as a conversion lays it: behind its end the block is frozen. -/
def BAt (w : World) (g : Nat) (L : List Int) : Prop := ∃ cs : Array Value, w.heap[g]? = some (.cells cs 5 (cs.size, cs.size + 1)) ∧ L.length ≤ cs.size ∧ ∀ j, j < L.length → cs[j]? = some (.int .u8 (L.getD j 0))

theorem BAt.cell {w : World} {g : Nat} {L : List Int} (h : BAt w g L) (j : Nat) (hj : j < L.length) : w.cell? ⟨g, j, none⟩ = some (.int .u8 (L.getD j 0)) := by
  obtain ⟨cs, hb, hl, hc⟩ := h
  unfold World.cell?
  rw [hb]
  exact hc j hj
theorem BAt.frz {w : World} {g : Nat} {L : List Int} (h : BAt w g L) (j : Nat) (hj : j < L.length) : w.frozen? ⟨g, j, none⟩ = false := by
  obtain ⟨cs, hb, hl, hc⟩ := h
  unfold World.frozen?
  rw [hb]
  show (decide (cs.size ≤ j) && decide (j < cs.size + 1)) = false
  rw [decide_eq_false (show ¬ cs.size ≤ j by omega)]
  rfl
theorem BAt.put {w : World} {g : Nat} {L : List Int} (h : BAt w g L) (j : Nat) (v : Int) (hj : j < L.length) : BAt (w.setCell ⟨g, j, none⟩ (.int .u8 v)) g (L.set j v) := by
  obtain ⟨cs, hb, hl, hc⟩ := h
  refine ⟨cs.setIfInBounds j (.int .u8 v), ?_, by rw [List.length_set, Array.size_setIfInBounds]; exact hl, fun i hi => ?_⟩
  · rw [Array.size_setIfInBounds]
    unfold World.setCell
    show (w.heap.modify g _)[g]? = _
    rw [Array.getElem?_modify, if_pos rfl, hb]
    rfl
  · rw [List.length_set] at hi
    rw [Array.getElem?_setIfInBounds]
    by_cases e : j = i
    · subst e
      rw [if_pos rfl, if_pos (by omega)]
      simp [List.getD_eq_getElem?_getD, List.getElem?_set, hj]
    · rw [if_neg e, hc i hi]
      simp [List.getD_eq_getElem?_getD, List.getElem?_set, e]
theorem BAt.reads {w : World} {g : Nat} {L : List Int} (h : BAt w g L) (hL : L.length ≤ 9223372036854775807) : ReadsInt w .u8 (some ⟨g, 0, none⟩) L.length L := by
  refine ⟨rfl, hL, fun _ => ⟨_, rfl, fun j hj => ?_⟩⟩
  rw [add_plain]
  exact h.cell j hj
theorem BAt.mk_ (W : World) (s : ByteArray) : BAt (Lib.bytesWorld W 5 s) W.heap.size (bytesOf s) := by
  refine ⟨_, Lib.bytesWorld_at_new W 5 s, ?_, fun j hj => ?_⟩
  · rw [bytesOf_length]
    simp [Lib.bytesCells]
    try omega
  · have h1 := Lib.bytesWorld_cell W 5 s j (by rw [bytesOf_length] at hj; exact hj)
    unfold World.cell? at h1
    rw [Lib.bytesWorld_at_new W 5 s] at h1
    have h2 : (Lib.bytesCells W 5 s)[j]? = some (.int .u8 (s.data.toList.getD j 0).toNat) := h1
    rw [h2]
    have h' : j < s.data.toList.length := by rw [data_length]; rw [bytesOf_length] at hj; exact hj
    simp [bytesOf, List.getD_eq_getElem?_getD, List.getElem?_eq_getElem h']

/-- A byte turned. -/
def up (how c : Int) : Int := if how = 1 ∧ 97 ≤ c ∧ c ≤ 122 then c - 32 else if how = 2 ∧ 65 ≤ c ∧ c ≤ 90 then c + 32 else c
def caseB (s : ByteArray) (how : Int) : ByteArray := if okB s = true ∧ (how = 1 ∨ how = 2) then strOfNums ((bytesOf s).map (up how)) else ⟨#[]⟩

theorem bytesOf_rng (s : ByteArray) (i : Nat) : 0 ≤ (bytesOf s).getD i 0 ∧ (bytesOf s).getD i 0 ≤ 255 := by
  unfold bytesOf
  by_cases h : i < s.data.toList.length
  · simp only [List.getD_eq_getElem?_getD, List.getElem?_map, List.getElem?_eq_getElem h, Option.map_some, Option.getD_some]
    have := s.data.toList[i].toNat_lt
    omega
  · simp [List.getD_eq_getElem?_getD, List.getElem?_eq_none (Nat.le_of_not_lt h)]

/-- What stands behind i rounds. -/
def mid (how : Int) (L : List Int) (i : Nat) : List Int := (L.take i).map (up how) ++ L.drop i
theorem mid_length (how : Int) (L : List Int) (i : Nat) : (mid how L i).length = L.length := by
  simp only [mid, List.length_append, List.length_map, List.length_take, List.length_drop]
  omega
theorem mid_at (how : Int) (L : List Int) (i : Nat) (hi : i < L.length) : (mid how L i).getD i 0 = L.getD i 0 := by
  have : (L.take i).length = i := by rw [List.length_take]; omega
  simp only [mid, List.getD_eq_getElem?_getD]
  rw [List.getElem?_append_right (by rw [List.length_map, this]; omega), List.length_map, this, Nat.sub_self, List.getElem?_drop, Nat.add_zero]
theorem mid_set (how : Int) (L : List Int) (i : Nat) (hi : i < L.length) : (mid how L i).set i (up how (L.getD i 0)) = mid how L (i + 1) := by
  have h1 : (L.take i).length = i := by rw [List.length_take]; omega
  have h2 : L.drop i = L.getD i 0 :: L.drop (i + 1) := by
    rw [List.drop_eq_getElem_cons hi]
    simp [List.getD_eq_getElem?_getD, List.getElem?_eq_getElem hi]
  have h3 : L.take (i + 1) = L.take i ++ [L.getD i 0] := by
    rw [List.take_add_one]
    simp [List.getD_eq_getElem?_getD, List.getElem?_eq_getElem hi]
  unfold mid
  rw [h3, List.map_append, List.set_append_right _ _ (by rw [List.length_map, h1]; omega), List.length_map, h1, Nat.sub_self]
  conv => lhs; rw [h2]
  simp
theorem mid_keep (how : Int) (L : List Int) (i : Nat) (hi : i < L.length) (h : up how (L.getD i 0) = L.getD i 0) : mid how L i = mid how L (i + 1) := by
  rw [← mid_set how L i hi, h]
  apply List.ext_getElem?
  intro j
  rw [List.getElem?_set]
  by_cases e : i = j
  · subst e
    rw [if_pos rfl, if_pos (by rw [mid_length]; exact hi)]
    have h2 : i < (mid how L i).length := by rw [mid_length]; exact hi
    have h1 := mid_at how L i hi
    rw [List.getD_eq_getElem?_getD, List.getElem?_eq_getElem h2] at h1
    rw [List.getElem?_eq_getElem h2, ← h1]
    rfl
  · rw [if_neg e]

theorem Below.put_new {w0 w : World} {g j : Nat} {v : Value} (h : Below w0.heap.size w0 w) (hg : w0.heap.size ≤ g) : Below w0.heap.size w0 (w.setCell ⟨g, j, none⟩ v) := below_set h hg

set_option maxHeartbeats 2000000 in
set_option maxRecDepth 1000000 in
theorem implCase_calls (s : ByteArray) (how : Int) (w : World) (hs : s.size ≤ 9223372036854775807) (hT : Tabs w) :
    Calls Tryd.prog 11 #[.string s, .int .i64 how] w fun e w' => e = .returned (.string (caseB s how)) ∧ Below w.heap.size w w' := by
  have cO := implOk_calls s w hs hT
  unfold caseB
  generalize hV : okB s = V at cO ⊢
  cases V with
  | false =>
    rw [if_neg (by simp)]
    go_enter Tryd.func11, Tryd.ntmps11
    go_wp2_with fail
    refine cO.mono ?_
    rintro e w1 ⟨rfl, hb⟩
    go_wp2
    go_ret
    exact ⟨rfl, hb⟩
  | true =>
    have hsz : s.size ≤ 16384 := by
      unfold okB at hV
      rw [Bool.and_eq_true, decide_eq_true_eq] at hV
      exact hV.1
    clear hV
    by_cases hw : how = 1 ∨ how = 2
    · rw [if_pos ⟨rfl, hw⟩]
      have kb := fun W => print_bytes (P := Tryd.prog) 9 30 5 Tryd.underlying9 Tryd.underlying30 Tryd.underlying5 s W
      have hlen := bytesOf_length s
      have HLEN := Aside0.mk hlen
      clear hlen
      have HBA : Aside0 (∀ W : World, BAt (Lib.bytesWorld W 5 s) W.heap.size (bytesOf s)) := ⟨fun W => BAt.mk_ W s⟩
      have HRNG : Aside0 (∀ i, 0 ≤ (bytesOf s).getD i 0 ∧ (bytesOf s).getD i 0 ≤ 255) := ⟨bytesOf_rng s⟩
      generalize bytesOf s = L at *
      go_enter Tryd.func11, Tryd.ntmps11
      go_wp2_with fail
      refine cO.mono ?_
      rintro e w1 ⟨rfl, hb⟩
      have HB := Aside0.mk (bytes_below hb hb.size 5 s)
      have HA := Aside0.mk (HBA.out w1)
      have hge : w.heap.size ≤ w1.heap.size := hb.size
      clear hb cO
      clear hT hs
      clear HBA
      rcases hw with rfl | rfl
      · go_wp2_with fail
        generalize hcap : grownCap w1 s.size 0 5 = cap at *
        generalize hwb : Lib.bytesWorld w1 5 s = wb at *
        generalize hg : w1.heap.size = g at *
        clear kb
        generalize s.size = n at *
        go_loopg [23] n (fun kq v23 w' => ∃ i : Nat, v23 = .int .i64 i ∧ i + kq = n ∧ Aside0 (BAt w' g (mid 1 L i)) ∧ Aside0 (Below w.heap.size w w'))
        case atStart => exact ⟨0, rfl, by omega, ⟨by simpa [mid] using HA.out⟩, HB⟩
        case round =>
          clear HA HB
          obtain ⟨i, rfl, hik, HA, HB⟩ := hrel
          by_cases hi : i < n
          · obtain ⟨kq, rfl⟩ : ∃ q, gk = q + 1 := ⟨gk - 1, by omega⟩
            obtain ⟨c, hc⟩ : ∃ c, L.getD i 0 = c := ⟨_, rfl⟩
            have hLn : i < L.length := by rw [HLEN.out]; exact hi
            have hr := HRNG.out i
            rw [hc] at hr
            have x0 : wr.cell? ⟨g, i, none⟩ = some (.int .u8 c) := by
              rw [← hc, ← mid_at 1 L i hLn]
              exact HA.out.cell i (by rw [mid_length]; exact hLn)
            have z0 : wr.frozen? ⟨g, i, none⟩ = false := HA.out.frz i (by rw [mid_length]; exact hLn)
            by_cases h1 : c ≥ 97
            · by_cases h2 : c ≤ 122
              · have hup : up 1 c = c - 32 := by unfold up; rw [if_pos ⟨rfl, by omega, by omega⟩]
                have HA2 := Aside0.mk (show BAt (wr.setCell ⟨g, i, none⟩ (.int .u8 (c - 32))) g (mid 1 L (i + 1)) by
                  have := HA.out.put i (c - 32) (by rw [mid_length]; exact hLn)
                  rw [← hup, ← hc, mid_set 1 L i hLn] at this
                  rw [← hup, ← hc]
                  exact this)
                have HB2 := Aside0.mk (below_set (j := i) (v := .int .u8 (c - 32)) HB.out hge)
                clear hup
                go_wp2
                go_roundg kq
                case measure => omega
                case rel => exact ⟨i + 1, by first | rfl | simp, by omega, HA2, HB2⟩
              · have hup : up 1 c = c := by unfold up; rw [if_neg (by omega), if_neg (by omega)]
                have HA2 := Aside0.mk (show BAt wr g (mid 1 L (i + 1)) by rw [← mid_keep 1 L i hLn (by rw [hc]; exact hup)]; exact HA.out)
                clear hup
                go_wp2
                go_roundg kq
                case measure => omega
                case rel => exact ⟨i + 1, by first | rfl | simp, by omega, HA2, HB⟩
            · have hup : up 1 c = c := by unfold up; rw [if_neg (by omega), if_neg (by omega)]
              have HA2 := Aside0.mk (show BAt wr g (mid 1 L (i + 1)) by rw [← mid_keep 1 L i hLn (by rw [hc]; exact hup)]; exact HA.out)
              clear hup
              go_wp2
              go_roundg kq
              case measure => omega
              case rel => exact ⟨i + 1, by first | rfl | simp, by omega, HA2, HB⟩
          · have hin : i = n := by omega
            subst hin
            have hmf : mid 1 L L.length = L.map (up 1) := by simp [mid]
            have HA2 := HA.out
            rw [← HLEN.out] at HA2
            rw [hmf] at HA2
            have hrd := HA2.reads (by rw [List.length_map]; have := HLEN.out; omega)
            rw [List.length_map, HLEN.out] at hrd
            have ks := string_of_reads (P := Tryd.prog) (src := 30) (dst := 9) (c := cap) Tryd.underlying30 Tryd.underlying5 Tryd.underlying9 hrd
            clear hrd HA2 HA hmf
            go_wp2
            go_ret
            exact ⟨rfl, HB.out⟩
      · go_wp2_with fail
        generalize hcap : grownCap w1 s.size 0 5 = cap at *
        generalize hwb : Lib.bytesWorld w1 5 s = wb at *
        generalize hg : w1.heap.size = g at *
        clear kb
        generalize s.size = n at *
        go_loopg [23] n (fun kq v23 w' => ∃ i : Nat, v23 = .int .i64 i ∧ i + kq = n ∧ Aside0 (BAt w' g (mid 2 L i)) ∧ Aside0 (Below w.heap.size w w'))
        case atStart => exact ⟨0, rfl, by omega, ⟨by simpa [mid] using HA.out⟩, HB⟩
        case round =>
          clear HA HB
          obtain ⟨i, rfl, hik, HA, HB⟩ := hrel
          by_cases hi : i < n
          · obtain ⟨kq, rfl⟩ : ∃ q, gk = q + 1 := ⟨gk - 1, by omega⟩
            obtain ⟨c, hc⟩ : ∃ c, L.getD i 0 = c := ⟨_, rfl⟩
            have hLn : i < L.length := by rw [HLEN.out]; exact hi
            have hr := HRNG.out i
            rw [hc] at hr
            have x0 : wr.cell? ⟨g, i, none⟩ = some (.int .u8 c) := by
              rw [← hc, ← mid_at 2 L i hLn]
              exact HA.out.cell i (by rw [mid_length]; exact hLn)
            have z0 : wr.frozen? ⟨g, i, none⟩ = false := HA.out.frz i (by rw [mid_length]; exact hLn)
            by_cases h1 : c ≥ 65
            · by_cases h2 : c ≤ 90
              · have hup : up 2 c = c + 32 := by unfold up; rw [if_neg (by omega), if_pos ⟨rfl, by omega, by omega⟩]
                have HA2 := Aside0.mk (show BAt (wr.setCell ⟨g, i, none⟩ (.int .u8 (c + 32))) g (mid 2 L (i + 1)) by
                  have := HA.out.put i (c + 32) (by rw [mid_length]; exact hLn)
                  rw [← hup, ← hc, mid_set 2 L i hLn] at this
                  rw [← hup, ← hc]
                  exact this)
                have HB2 := Aside0.mk (below_set (j := i) (v := .int .u8 (c + 32)) HB.out hge)
                clear hup
                go_wp2
                go_roundg kq
                case measure => omega
                case rel => exact ⟨i + 1, by first | rfl | simp, by omega, HA2, HB2⟩
              · have hup : up 2 c = c := by unfold up; rw [if_neg (by omega), if_neg (by omega)]
                have HA2 := Aside0.mk (show BAt wr g (mid 2 L (i + 1)) by rw [← mid_keep 2 L i hLn (by rw [hc]; exact hup)]; exact HA.out)
                clear hup
                go_wp2
                go_roundg kq
                case measure => omega
                case rel => exact ⟨i + 1, by first | rfl | simp, by omega, HA2, HB⟩
            · have hup : up 2 c = c := by unfold up; rw [if_neg (by omega), if_neg (by omega)]
              have HA2 := Aside0.mk (show BAt wr g (mid 2 L (i + 1)) by rw [← mid_keep 2 L i hLn (by rw [hc]; exact hup)]; exact HA.out)
              clear hup
              go_wp2
              go_roundg kq
              case measure => omega
              case rel => exact ⟨i + 1, by first | rfl | simp, by omega, HA2, HB⟩
          · have hin : i = n := by omega
            subst hin
            have hmf : mid 2 L L.length = L.map (up 2) := by simp [mid]
            have HA2 := HA.out
            rw [← HLEN.out] at HA2
            rw [hmf] at HA2
            have hrd := HA2.reads (by rw [List.length_map]; have := HLEN.out; omega)
            rw [List.length_map, HLEN.out] at hrd
            have ks := string_of_reads (P := Tryd.prog) (src := 30) (dst := 9) (c := cap) Tryd.underlying30 Tryd.underlying5 Tryd.underlying9 hrd
            clear hrd HA2 HA hmf
            go_wp2
            go_ret
            exact ⟨rfl, HB.out⟩
    · rw [if_neg (fun h => hw h.2)]
      have h1 : (how != 1) = true := by simpa using fun h => hw (Or.inl h)
      have h2 : (how != 2) = true := by simpa using fun h => hw (Or.inr h)
      clear hw
      go_enter Tryd.func11, Tryd.ntmps11
      go_wp2_with fail
      refine cO.mono ?_
      rintro e w1 ⟨rfl, hb⟩
      go_wp2
      go_ret
      exact ⟨rfl, hb⟩

set_option maxHeartbeats 1000000 in
set_option maxRecDepth 1000000 in
/-- The law on TextCase. -/
theorem lawCase_calls (P : ∀ (s : ByteArray) (how : Int), s.size ≤ 1048576 → ∃ k, spec_TextCase.f k s how = some (caseB s how)) (s : ByteArray) (how : Int) (w : World) (hT : Tabs w) :
    Calls Tryd.prog 5 #[.string s, .int .i64 how] w fun e w' => e = .returned (.bool true) ∧ Below w.heap.size w w' := by
  by_cases h0 : 1048576 < s.size
  · have h0z : (1048576 : Int) < (s.size : Int) := by omega
    go_enter Tryd.func5, Tryd.ntmps5
    go_wp2
    go_ret
    exact ⟨rfl, Below.refl _ _⟩
  · have h0z : ¬ ((1048576 : Int) < (s.size : Int)) := by omega
    obtain ⟨k, hk⟩ := P s how (by omega)
    have HK := Aside0.mk hk
    have HT := Aside0.mk hT
    clear hk hT P
    go_enter Tryd.func5, Tryd.ntmps5
    go_wp2_with fail
    refine (spec_TextCase.calls k s how _ w HK.out).mono ?_
    rintro e w1 ⟨rfl, hb⟩
    have HB := Aside0.mk hb
    have cI := implCase_calls s how w1 (by omega) (HT.out.below hb)
    clear hb HK
    generalize caseB s how = V at *
    go_wp2_with fail
    refine cI.mono ?_
    rintro e w2 ⟨rfl, hb⟩
    have HB2 := Aside0.mk (below_step HB.out hb)
    clear hb cI
    go_wp2
    go_ret
    exact ⟨rfl, HB2.out⟩

end Go.Proofs.YtddljmfgmolhaaaDoor.PT
