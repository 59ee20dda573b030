/- What TextReplace of the program comes to, over the shelf's contracts of utf8.ValidString, strings.Count and strings.ReplaceAll; and the walk of the law on it. No condition beyond those of the theorems. -/
import Derived.Test.YtfgiodolgmfdoaaDoorJoinZ
import Derived.Test.YtfgiodolgmfdoaaDoorShelfR
namespace Go.Proofs.YtfgiodolgmfdoaaDoor.PT
open Go.RowKit Go.Shelf Go.Proofs.YtfgiodolgmfdoaaDoorW.PrintWords Go.Proofs.YtfgiodolgmfdoaaDoorW.PrintLast
set_option linter.unusedVariables false
set_option linter.unusedSimpArgs false

theorem X155 : Builder.Extra Tryd.prog Tryd.lays155_ren := { sizeBuilder := by kernel_rfl, liesBuilder := by kernel_rfl, t5 := Tryd.underlying5, a5 := Tryd.isAgg5, z5 := Tryd.sizeOf5, v5 := Tryd.zeroValue5, infoByte := by kernel_rfl, cellsByte := by kernel_rfl, sizeByte := by kernel_rfl, neB5 := by decide }

theorem count_calls (s old : ByteArray) (w : World) (hs : s.size ≤ 16384) (h1 : 1 ≤ old.size) (hT : TM w) :
    Calls Tryd.prog 78 #[.string s, .string old] w fun e w' => e = .returned (.int .i64 (Lib.countB s old)) ∧ w' = w := by
  obtain ⟨m, hm⟩ := hT.m
  by_cases h2 : old.size = 1
  · obtain ⟨c, rfl⟩ := Lib.one_byte old h2
    have h := Any.strings_Count_one Tryd.lays138 s c w
    have e : Lib.countB s ⟨#[c]⟩ = Lib.countByte s.data.toList c := Lib.count_one c s.data.toList
    rw [e]
    exact h
  · exact Any.strings_Count Tryd.lays138 s old m w (by omega) hm (by omega)

theorem repl_calls (s old by' : ByteArray) (w : World) (hs : s.size ≤ 16384) (hb : by'.size ≤ 16384) (h1 : 1 ≤ old.size) (hT : TM w) :
    Calls Tryd.prog 79 #[.string s, .string old, .string by'] w fun e w' => e = .returned (.string ⟨(Lib.replaceAll s.data.toList old.data.toList by'.data.toList).toArray⟩) ∧ Below w.heap.size w w' := by
  obtain ⟨m, hm⟩ := hT.m
  have hcl := Lib.countB_le old h1 s.size s (Nat.le_refl _)
  have hmul : Lib.countB s old * by'.size ≤ 16384 * 16384 := Nat.mul_le_mul (by omega) hb
  exact Any.strings_ReplaceAll Tryd.lays155 X155 s old by' m w (by omega) hm h1 (by omega)

set_option maxHeartbeats 4000000 in
set_option maxRecDepth 1000000 in
theorem implRepl_calls (s old by' : ByteArray) (w : World) (hs0 : s.size ≤ 1048576) (hs1 : old.size ≤ 1048576) (hs2 : by'.size ≤ 1048576) (hT : TM w) :
    Calls Tryd.prog 40 #[.string s, .string old, .string by'] w fun e w' => e = .returned (.tuple #[.string (replR s old by').1, .int .i64 (replR s old by').2]) ∧ Below w.heap.size w w' := by
  have C0 := Aside0.mk (implOk_calls s w (by omega) hT.t)
  have C1 := Aside0.mk (fun (w1 : World) (hb : Below w.heap.size w w1) => implOk_calls old w1 (by omega) (hT.t.below hb))
  have C2 := Aside0.mk (fun (w1 : World) (hb : Below w.heap.size w w1) => implOk_calls by' w1 (by omega) (hT.t.below hb))
  have HT := Aside0.mk hT
  clear hT
  obtain ⟨R, hR⟩ : ∃ R, replR s old by' = R := ⟨_, rfl⟩
  rw [hR]
  unfold replR at hR
  have hz0 := fun h => okB_size (s := s) h
  have hz1 := fun h => okB_size (s := old) h
  have hz2 := fun h => okB_size (s := by') h
  generalize okB s = V0 at *
  generalize okB old = V1 at *
  generalize okB by' = V2 at *
  cases V0 with
  | false =>
    rw [if_neg (by simp)] at hR
    subst hR
    clear hz0 hz1 hz2
    have cO := C0.out
    go_enter Tryd.func40, Tryd.ntmps40
    go_wp2_with fail
    refine cO.mono ?_
    rintro e w1 ⟨rfl, hb⟩
    go_wp2
    go_ret2
    exact ⟨rfl, hb⟩
  | true =>
    have hz0 := hz0 rfl
    cases V1 with
    | false =>
      rw [if_neg (by simp)] at hR
      subst hR
      clear hz1 hz2
      have cO := C0.out
      clear C0
      go_enter Tryd.func40, Tryd.ntmps40
      go_wp2_with fail
      refine cO.mono ?_
      rintro e w1 ⟨rfl, hb⟩
      have HB := Aside0.mk hb
      have cQ := C1.out w1 hb
      clear hb C1 cO
      go_wp2_with fail
      refine cQ.mono ?_
      rintro e w2 ⟨rfl, hb⟩
      have HB2 := Aside0.mk (below_step HB.out hb)
      clear hb cQ
      go_wp2
      go_ret2
      exact ⟨rfl, HB2.out⟩
    | true =>
      have hz1 := hz1 rfl
      cases V2 with
      | false =>
        rw [if_neg (by simp)] at hR
        subst hR
        clear hz2
        have cO := C0.out
        clear C0
        go_enter Tryd.func40, Tryd.ntmps40
        go_wp2_with fail
        refine cO.mono ?_
        rintro e w1 ⟨rfl, hb⟩
        have HB := Aside0.mk hb
        have cQ := C1.out w1 hb
        clear hb C1 cO
        go_wp2_with fail
        refine cQ.mono ?_
        rintro e w2 ⟨rfl, hb⟩
        have HB2 := Aside0.mk (below_step HB.out hb)
        have cO := C2.out w2 HB2.out
        clear hb cQ HB C2
        go_wp2_with fail
        refine cO.mono ?_
        rintro e w3 ⟨rfl, hb⟩
        have HB3 := Aside0.mk (below_step HB2.out hb)
        clear hb cO HB2
        go_wp2
        go_ret2
        exact ⟨rfl, HB3.out⟩
      | true =>
        have hz2 := hz2 rfl
        by_cases h2 : old.size = 0
        · obtain rfl := empty_of old h2
          rw [if_neg (fun hh => hh.2.2.2 h2)] at hR
          subst hR
          have cO := C0.out
          clear C0
          go_enter Tryd.func40, Tryd.ntmps40
          go_wp2_with fail
          refine cO.mono ?_
          rintro e w1 ⟨rfl, hb⟩
          have HB := Aside0.mk hb
          have cQ := C1.out w1 hb
          clear hb C1 cO
          go_wp2_with fail
          refine cQ.mono ?_
          rintro e w2 ⟨rfl, hb⟩
          have HB2 := Aside0.mk (below_step HB.out hb)
          have cO := C2.out w2 HB2.out
          clear hb cQ HB C2
          go_wp2_with fail
          refine cO.mono ?_
          rintro e w3 ⟨rfl, hb⟩
          have HB3 := Aside0.mk (below_step HB2.out hb)
          clear hb cO HB2
          go_wp2
          go_ret2
          exact ⟨rfl, HB3.out⟩
        · rw [if_pos ⟨rfl, rfl, rfl, h2⟩] at hR
          have hie := ne_empty old h2
          have hcl := Lib.countB_le old (by omega) s.size s (Nat.le_refl _)
          have CC := Aside0.mk (fun (w1 : World) (hb : Below w.heap.size w w1) => count_calls s old w1 hz0 (by omega) (HT.out.below hb))
          have CR := Aside0.mk (fun (w1 : World) (hb : Below w.heap.size w w1) => repl_calls s old by' w1 hz0 hz2 (by omega) (HT.out.below hb))
          generalize hC : Lib.countB s old = C at *
          generalize hRA : Lib.replaceAll s.data.toList old.data.toList by'.data.toList = RA at *
          clear hC hRA
          obtain ⟨dd, hdd⟩ : ∃ dd : Int, (by'.size : Int) - (old.size : Int) = dd := ⟨_, rfl⟩
          have hp1 : (C : Int) * ((by'.size : Int) - (old.size : Int)) ≤ 300000000 := by
            rw [hdd]
            have h3 : (C : Int) * dd ≤ (C : Int) * 16384 := Int.mul_le_mul_of_nonneg_left (by omega) (by omega)
            omega
          have hp2 : -300000000 ≤ (C : Int) * ((by'.size : Int) - (old.size : Int)) := by
            rw [hdd]
            have h3 : (C : Int) * (-16384) ≤ (C : Int) * dd := Int.mul_le_mul_of_nonneg_left (by omega) (by omega)
            omega
          clear hdd
          by_cases hbig : (16384 : Int) < (s.size : Int) + (C : Int) * ((by'.size : Int) - (old.size : Int))
          · rw [if_pos hbig] at hR
            subst hR
            have cO := C0.out
            clear C0
            go_enter Tryd.func40, Tryd.ntmps40
            go_wp2_with fail
            refine cO.mono ?_
            rintro e w1 ⟨rfl, hb⟩
            have HB := Aside0.mk hb
            have cQ := C1.out w1 hb
            clear hb C1 cO
            go_wp2_with fail
            refine cQ.mono ?_
            rintro e w2 ⟨rfl, hb⟩
            have HB2 := Aside0.mk (below_step HB.out hb)
            have cO := C2.out w2 HB2.out
            clear hb cQ HB C2
            go_wp2_with fail
            refine cO.mono ?_
            rintro e w3 ⟨rfl, hb⟩
            have HB3 := Aside0.mk (below_step HB2.out hb)
            have cQ := CC.out w3 HB3.out
            clear hb cO HB2
            go_wp2_with fail
            refine cQ.mono ?_
            rintro e w4 ⟨rfl, rfl⟩
            clear cQ
            go_wp2
            go_ret2
            exact ⟨rfl, HB3.out⟩
          · rw [if_neg hbig] at hR
            subst hR
            have cO := C0.out
            clear C0
            go_enter Tryd.func40, Tryd.ntmps40
            go_wp2_with fail
            refine cO.mono ?_
            rintro e w1 ⟨rfl, hb⟩
            have HB := Aside0.mk hb
            have cQ := C1.out w1 hb
            clear hb C1 cO
            go_wp2_with fail
            refine cQ.mono ?_
            rintro e w2 ⟨rfl, hb⟩
            have HB2 := Aside0.mk (below_step HB.out hb)
            have cO := C2.out w2 HB2.out
            clear hb cQ HB C2
            go_wp2_with fail
            refine cO.mono ?_
            rintro e w3 ⟨rfl, hb⟩
            have HB3 := Aside0.mk (below_step HB2.out hb)
            have cQ := CC.out w3 HB3.out
            clear hb cO HB2
            go_wp2_with fail
            refine cQ.mono ?_
            rintro e w4 ⟨rfl, rfl⟩
            clear cQ
            have cO := CR.out w4 HB3.out
            go_wp2_with fail
            refine cO.mono ?_
            rintro e w5 ⟨rfl, hb⟩
            have HB5 := Aside0.mk (below_step HB3.out hb)
            clear hb cO
            go_wp2
            go_ret2
            exact ⟨rfl, HB5.out⟩

set_option maxHeartbeats 1000000 in
set_option maxRecDepth 1000000 in
/-- The law on TextReplace. -/
theorem lawRepl_calls (s old by' : ByteArray) (w : World) (hT : TM w) :
    Calls Tryd.prog 10 #[.string s, .string old, .string by'] w fun e w' => e = .returned (.bool true) ∧ Below w.heap.size w w' := by
  by_cases h0 : 1048576 < s.size
  · have h0z : (1048576 : Int) < (s.size : Int) := by omega
    go_enter Tryd.func10, Tryd.ntmps10
    go_wp2
    go_ret
    exact ⟨rfl, Below.refl _ _⟩
  have h0z : ¬ ((1048576 : Int) < (s.size : Int)) := by omega
  by_cases h1 : 1048576 < old.size
  · have h1z : (1048576 : Int) < (old.size : Int) := by omega
    go_enter Tryd.func10, Tryd.ntmps10
    go_wp2
    go_ret
    exact ⟨rfl, Below.refl _ _⟩
  have h1z : ¬ ((1048576 : Int) < (old.size : Int)) := by omega
  by_cases h2 : 1048576 < by'.size
  · have h2z : (1048576 : Int) < (by'.size : Int) := by omega
    go_enter Tryd.func10, Tryd.ntmps10
    go_wp2
    go_ret
    exact ⟨rfl, Below.refl _ _⟩
  have h2z : ¬ ((1048576 : Int) < (by'.size : Int)) := by omega
  have HT := Aside0.mk hT
  have cS := spec_TextReplace.calls 500000 s old by' (replR s old by').1 (replR s old by').2 w (specReplace s old by')
  have CI := Aside0.mk (fun (w1 : World) (hb : Below w.heap.size w w1) => implRepl_calls s old by' w1 (by omega) (by omega) (by omega) (HT.out.below hb))
  clear hT
  generalize replR s old by' = V at *
  go_enter Tryd.func10, Tryd.ntmps10
  go_wp2_with fail
  refine cS.mono ?_
  rintro e w1 ⟨rfl, hb⟩
  have HB := Aside0.mk hb
  have cI := CI.out w1 hb
  clear hb cS
  go_wp2_with fail
  refine cI.mono ?_
  rintro e w2 ⟨rfl, hb⟩
  have HB2 := Aside0.mk (below_step HB.out hb)
  clear hb cI
  go_wp2
  go_ret
  exact ⟨rfl, HB2.out⟩

end Go.Proofs.YtfgiodolgmfdoaaDoor.PT
