/- What TextSplit of the program comes to, over the shelf's contracts of utf8.ValidString and strings.Split. No condition beyond those of the theorems. -/
import Derived.Test.YtfgiodolgmfdoaaDoorGText
import Derived.Test.YtfgiodolgmfdoaaDoorShelfM
namespace Go.Proofs.YtfgiodolgmfdoaaDoor.PT
open Go.RowKit Go.Shelf Go.Proofs.YtfgiodolgmfdoaaDoorW.PrintWords Go.Proofs.YtfgiodolgmfdoaaDoorW.PrintLast
set_option linter.unusedVariables false
set_option linter.unusedSimpArgs false

/-- The library's variables that are read: two tables, and a whole number. -/
structure TM (w : World) : Prop where
  t : Tabs w
  m : ∃ m, w.cell? ⟨Tryd.laysM146_ren.g 1, 0, none⟩ = some (.int .i64 m)
theorem TM.below {w w' : World} (h : TM w) (hb : Below w.heap.size w w') : TM w' :=
  ⟨h.t.below hb, h.m.imp fun _ hm => pw_cell_below hb hm⟩

theorem ne_empty (s : ByteArray) (h : ¬ s.size = 0) : s.toList.isEmpty = false := by
  rw [Go.Lib.toList_data]
  cases hh : s.data.toList with
  | nil =>
    have := congrArg List.length hh
    rw [data_length] at this
    exact absurd this h
  | cons a l => rfl

theorem empty_of (s : ByteArray) (h : s.size = 0) : s = ⟨#[]⟩ := by
  cases s with
  | mk d =>
    congr 1
    exact Array.eq_empty_of_size_eq_zero h

def impl_TextSplit.f (s sep : ByteArray) : Option (List ByteArray × Int) := some (if okB s = true ∧ okB sep = true ∧ ¬ sep.size = 0 then (Lib.splitB sep 0 (Lib.countB s sep) s, 0) else ([], 1))

theorem okB_size {s : ByteArray} (h : okB s = true) : s.size ≤ 16384 := by
  unfold okB at h
  rw [Bool.and_eq_true, decide_eq_true_eq] at h
  exact h.1

set_option maxHeartbeats 2000000 in
set_option maxRecDepth 1000000 in
theorem impl_TextSplit.calls (a0 a1 : ByteArray) (r1 : List ByteArray) (r2 : Int) (w : World) (h : impl_TextSplit.f a0 a1 = some (r1, r2)) (hT : TM w) (hs0 : a0.size ≤ 1048576) (hs1 : a1.size ≤ 1048576) :
    Calls Tryd.prog 38 #[.string a0, .string a1] w fun e w' => ∃ v0_ : Value, e = .returned (.tuple #[v0_, .int .i64 r2]) ∧ Kd.R Kd.string 9 w' w.heap.size (fun _ => True) v0_ r1 ∧ Below w.heap.size w w' := by
  unfold impl_TextSplit.f at h
  have hsz := fun h => okB_size (s := a0) h
  have cO := implOk_calls a0 w (by omega) hT.t
  generalize okB a0 = V at *
  cases V with
  | false =>
    rw [if_neg (by simp)] at h
    simp only [Option.some.injEq, Prod.mk.injEq] at h
    obtain ⟨rfl, rfl⟩ := h
    clear hsz hT
    go_enter Tryd.func38, Tryd.ntmps38
    go_wp2_with fail
    refine cO.mono ?_
    rintro e w1 ⟨rfl, hb⟩
    go_wp2
    go_ret2
    exact ⟨_, rfl, Kd.R_nil _ _ _ _ _, hb⟩
  | true =>
    have hz := hsz rfl
    clear hsz
    have cP := fun (w1 : World) (hb : Below w.heap.size w w1) => implOk_calls a1 w1 (by omega) (hT.t.below hb)
    generalize okB a1 = V at *
    cases V with
    | false =>
      rw [if_neg (by simp)] at h
      simp only [Option.some.injEq, Prod.mk.injEq] at h
      obtain ⟨rfl, rfl⟩ := h
      have CP := Aside0.mk cP
      clear hT cP
      go_enter Tryd.func38, Tryd.ntmps38
      go_wp2_with fail
      refine cO.mono ?_
      rintro e w1 ⟨rfl, hb⟩
      have HB := Aside0.mk hb
      have cQ := CP.out w1 hb
      clear hb CP cO
      go_wp2_with fail
      refine cQ.mono ?_
      rintro e w2 ⟨rfl, hb⟩
      have HB2 := Aside0.mk (below_step HB.out hb)
      clear hb cQ
      go_wp2
      go_ret2
      exact ⟨_, rfl, Kd.R_nil _ _ _ _ _, HB2.out⟩
    | true =>
      have CP := Aside0.mk cP
      have HTM := Aside0.mk hT
      clear hT cP
      by_cases h2 : a1.size = 0
      · obtain rfl := empty_of a1 h2
        rw [if_neg (fun hh => hh.2.2 h2)] at h
        simp only [Option.some.injEq, Prod.mk.injEq] at h
        obtain ⟨rfl, rfl⟩ := h
        go_enter Tryd.func38, Tryd.ntmps38
        go_wp2_with fail
        refine cO.mono ?_
        rintro e w1 ⟨rfl, hb⟩
        have HB := Aside0.mk hb
        have cQ := CP.out w1 hb
        clear hb CP cO
        go_wp2_with fail
        refine cQ.mono ?_
        rintro e w2 ⟨rfl, hb⟩
        have HB2 := Aside0.mk (below_step HB.out hb)
        clear hb cQ
        go_wp2
        go_ret2
        exact ⟨_, rfl, Kd.R_nil _ _ _ _ _, HB2.out⟩
      · rw [if_pos ⟨rfl, rfl, h2⟩] at h
        simp only [Option.some.injEq, Prod.mk.injEq] at h
        obtain ⟨rfl, rfl⟩ := h
        have hie := ne_empty a1 h2
        go_enter Tryd.func38, Tryd.ntmps38
        go_wp2_with fail
        refine cO.mono ?_
        rintro e w1 ⟨rfl, hb⟩
        have HB := Aside0.mk hb
        have cQ := CP.out w1 hb
        clear hb CP cO
        go_wp2_with fail
        refine cQ.mono ?_
        rintro e w2 ⟨rfl, hb⟩
        have HB2 := Aside0.mk (below_step HB.out hb)
        clear hb cQ HB
        obtain ⟨m, hm⟩ := (HTM.out.below HB2.out).m
        have cS : Calls Tryd.prog 77 #[.string a0, .string a1] w2 _ := Any.strings_Split { Tryd.laysM146 with } Tryd.laysM146.i9 a0 a1 m w2 (by omega) hm (by omega)
        clear hm HTM
        have hln := Lib.splitB_all a1 (by omega) 0 _ a0 rfl
        have hcl := Lib.countB_le a1 (by omega) a0.size a0 (Nat.le_refl _)
        generalize hP : Lib.splitB a1 0 (Lib.countB a0 a1) a0 = P at *
        generalize hC : Lib.countB a0 a1 = C at *
        have HLN := Aside0.mk hln
        clear hln
        go_wp2_with fail
        refine cS.mono ?_
        rintro e w3 ⟨rfl, rfl⟩
        have hown := World.ownsRow_lit (base := w.heap.size) (e := 9) (size := 1) w2 ((P.map Value.string).toArray) (C + 1) HB2.out.size (by unfold maxLen; omega) (by rw [List.size_toArray, List.length_map, HLN.out, Nat.mul_one])
        go_wp2
        go_ret2
        have hR : Kd.R Kd.string 9 (w2.alloc (.cells ((P.map Value.string).toArray) 9)) w.heap.size (fun _ => True) (.slice (some ⟨w2.heap.size, 0, none⟩) (C + 1) (C + 1)) P :=
          Kd.R_of_own (enc := Value.string) (by rw [HLN.out]; exact hown) (fun _ _ => trivial)
        subst hP
        subst hC
        exact ⟨_, rfl, hR, below_alloc HB2.out _⟩

end Go.Proofs.YtfgiodolgmfdoaaDoor.PT
