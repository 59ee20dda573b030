/- What TextFind of the program comes to, over the shelf's contracts of utf8.ValidString, strings.Index and utf8.RuneCountInString; and the walk of the law on it. No condition beyond those of the theorems. -/
import Derived.Test.YtfgiodolgmfdoaaDoorFindZ
import Derived.Test.YtfgiodolgmfdoaaDoorGRune
import Derived.Test.YtfgiodolgmfdoaaDoorShelfI
namespace Go.Proofs.YtfgiodolgmfdoaaDoor.PT
open Go.RowKit Go.Shelf Go.Proofs.YtfgiodolgmfdoaaDoorW.PrintWords Go.Proofs.YtfgiodolgmfdoaaDoorW.PrintLast Go.Proofs.YtfgiodolgmfdoaaDoorW.PrintMore
attribute [local go_sem] max2_int max_two
set_option linter.unusedVariables false
set_option linter.unusedSimpArgs false

theorem index_calls (s t : ByteArray) (w : World) (hs : s.size ≤ 100000) (hT : TM w) :
    Calls Tryd.prog 65 #[.string s, .string t] w fun e w' => e = .returned (.int .i64 (Lib.indexB s t)) ∧ w' = w := by
  obtain ⟨m, hm⟩ := hT.m
  exact Any.strings_Index Tryd.lays143 s t m w (by omega) hm
theorem count_runes (s : ByteArray) (w : World) (hs : s.size ≤ 100000) :
    Calls Tryd.prog 66 #[.string s] w fun e w' => e = .returned (.int .i64 (Lib.runeCount s)) ∧ ∃ pos, w' = w.iter s pos := Any.utf8_RuneCountInString Tryd.lays195 s w (by omega)

set_option maxHeartbeats 4000000 in
set_option maxRecDepth 1000000 in
theorem implFind_calls (s t : ByteArray) (fr : Int) (w : World) (hs0 : s.size ≤ 1048576) (hs1 : t.size ≤ 1048576) (hT : TM w) :
    Calls Tryd.prog 27 #[.string s, .string t, .int .i64 fr] w fun e w' => e = .returned (.int .i64 (findM s t fr)) ∧ Below w.heap.size w w' := by
  have C0 := Aside0.mk (implOk_calls s w (by omega) hT.t)
  have C1 := Aside0.mk (fun (w1 : World) (hb : Below w.heap.size w w1) => implOk_calls t w1 (by omega) (hT.t.below hb))
  have HT := Aside0.mk hT
  clear hT
  obtain ⟨R, hR⟩ : ∃ R, findM s t fr = R := ⟨_, rfl⟩
  rw [hR]
  unfold findM at hR
  have hz0 := fun h => okB_size (s := s) h
  have hz1 := fun h => okB_size (s := t) h
  have hz2 := fun h => okB_of (s := s) h
  generalize okB s = V0 at *
  generalize okB t = V1 at *
  cases V0 with
  | false =>
    rw [if_neg (by simp)] at hR
    subst hR
    clear hz0 hz1 hz2
    have cO := C0.out
    go_enter Tryd.func27, Tryd.ntmps27
    go_wp2_with fail
    refine cO.mono ?_
    rintro e w1 ⟨rfl, hb⟩
    go_wp2
    go_ret
    exact ⟨rfl, hb⟩
  | true =>
    have hz0 := hz0 rfl
    obtain ⟨RS, hO⟩ := hz2 rfl
    have hOr := hO.runes
    have hRl := enAll_len RS hO.ok
    rw [← hO.size] at hRl
    rw [hOr] at hR
    cases V1 with
    | false =>
      rw [if_neg (by simp)] at hR
      subst hR
      clear hz1 hz2 hOr hRl
      have HO := Aside0.mk hO
      clear hO
      have cO := C0.out
      clear C0
      go_enter Tryd.func27, Tryd.ntmps27
      go_wp2_with fail
      refine cO.mono ?_
      rintro e w1 ⟨rfl, hb⟩
      have HB := Aside0.mk hb
      have cQ := C1.out w1 hb
      clear hb C1 cO
      go_wp2_with fail
      refine cQ.mono ?_
      rintro e w2 ⟨rfl, hb⟩
      have HB2 := Aside0.mk (below_step HB.out hb)
      clear hb cQ
      go_wp2
      go_ret
      exact ⟨rfl, HB2.out⟩
    | true =>
      have hz1 := hz1 rfl
      clear hz2
      have KC := Aside0.mk (fun W => runes_conv W s hz0)
      have KA := Aside0.mk (fun W => runeWorld_at W s)
      rw [hOr] at KC KA
      have HOK := Aside0.mk hO.ok
      have HRE : Aside0 (∀ F, restB s F = ⟨(enAll (RS.drop F)).toArray⟩) := ⟨fun F => by unfold restB; rw [hOr]⟩
      have HSZ : Aside0 (∀ F, (⟨(enAll (RS.drop F)).toArray⟩ : ByteArray).size ≤ 100000) := ⟨fun F => by
        have h1 : (enAll RS).length ≤ 16384 := by rw [← hO.size]; exact hz0
        have h2 : enAll RS = enAll (RS.take F) ++ enAll (RS.drop F) := by rw [← enAll_append, List.take_append_drop]
        rw [h2, List.length_append] at h1
        simp only [ByteArray.size, List.size_toArray]
        omega⟩
      clear hOr hO
      obtain ⟨n, hn⟩ : ∃ n, RS.length = n := ⟨_, rfl⟩
      have HN := Aside0.mk hn
      rw [hn] at hR hRl KC
      clear hn
      by_cases hneg : fr < 0
      · rw [show max fr 0 = ((0 : Nat) : Int) by omega] at hR
        have cO := C0.out
        clear C0
        have hlt : 0 ≤ n := by omega
        · have hlz : ¬ (n : Int) < (0 : Nat) := by omega
          rw [if_pos ⟨rfl, rfl, hlz⟩, HRE.out, Int.toNat_natCast] at hR
          have CI := Aside0.mk (fun (w1 : World) (hb : Below w.heap.size w w1) => index_calls ⟨(enAll (RS.drop 0)).toArray⟩ t w1 (HSZ.out 0) (HT.out.below hb))
          have hsz := HSZ.out 0
          have hcs := Lib.indexB_cases ⟨(enAll (RS.drop 0)).toArray⟩ t
          obtain ⟨I, hI⟩ : ∃ I, Lib.indexB ⟨(enAll (RS.drop 0)).toArray⟩ t = I := ⟨_, rfl⟩
          rw [hI] at CI hR hcs
          obtain ⟨X, hX⟩ : ∃ X : ByteArray, (⟨(enAll (RS.drop 0)).toArray⟩ : ByteArray) = X := ⟨_, rfl⟩
          have HX := Aside0.mk hX
          rw [hX] at CI hR hcs hsz
          clear hI hX
          go_enter Tryd.func27, Tryd.ntmps27
          go_wp2_with fail
          refine cO.mono ?_
          rintro e w1 ⟨rfl, hb⟩
          have HB := Aside0.mk hb
          have cQ := C1.out w1 hb
          clear hb C1 cO
          go_wp2_with fail
          refine cQ.mono ?_
          rintro e w2 ⟨rfl, hb⟩
          have HB2 := Aside0.mk (below_step HB.out hb)
          have kc := KC.out w2
          have ka := KA.out w2
          have HB3 := Aside0.mk (runeWorld_below HB2.out s)
          clear hb cQ HB
          generalize runeWorld w2 s = w3 at *
          generalize runeCap w2 s = cap at *
          generalize w2.heap.size = g at *
          have hcap : n ≤ cap := by
            have h1 := HN.out
            obtain ⟨cs, _, h2, _⟩ := ka
            omega
          have kb : ∀ j c : Nat, (j = 0 ∨ n - 0 = 0) → (convert 78 9 (.slice (some ⟨g, j, none⟩) (n - 0) c)).run Tryd.prog w3 = .ok (.string X) w3 := fun j c hj => by
            rw [← HX.out]
            exact runes_back ka HOK.out 0 (n - 0) c j (by have := HN.out; omega) hj
          have kb1 := kb 0 (cap - 0) (Or.inl rfl)
          have kb2 : 0 = cap → (convert 78 9 (.slice (some ⟨g, 0, none⟩) 0 0)).run Tryd.prog w3 = .ok (.string X) w3 := fun e => by
            have h1 := kb 0 0 (Or.inr (by omega))
            rw [show n - 0 = 0 by omega] at h1
            exact h1
          have cI := Aside0.mk (CI.out w3 HB3.out)
          clear ka kb KC KA CI
          (try simp only [Nat.sub_zero] at kb1)
          by_cases hc : 0 = cap
          all_goals
            first
            | (have kb2 := kb2 hc
               clear kb1
               subst hc
               obtain rfl : n = 0 := by omega)
            | clear kb2
            by_cases hI : I = -1
            · rw [if_pos hI] at hR
              subst hI
              subst hR
              clear hcs
              go_wp2_with fail
              refine cI.out.mono ?_
              rintro e w4 ⟨rfl, rfl⟩
              go_wp2
              go_ret
              exact ⟨rfl, HB3.out⟩
            · obtain ⟨i, hi, hroom⟩ := hcs.resolve_left hI
              subst hi
              rw [if_neg hI, Int.toNat_natCast] at hR
              have hcl := Lib.runeCount_le (X.extract 0 i)
              have hex : (X.extract 0 i).size ≤ 100000 := by rw [ByteArray.size_extract]; omega
              have hcl : Lib.runeCount (X.extract 0 i) ≤ 100000 := by omega
              have cN := Aside0.mk (fun W => count_runes (X.extract 0 i) W hex)
              clear hI hex
              generalize Lib.runeCount (X.extract 0 i) = N at *
              (try rw [show ((0 : Nat) : Int) + (N : Int) = N by omega] at hR)
              subst hR
              go_wp2_with fail
              refine cI.out.mono ?_
              rintro e w4 ⟨rfl, rfl⟩
              go_wp2_with fail
              refine (cN.out _).mono ?_
              rintro e w5 ⟨rfl, pos, rfl⟩
              go_wp2
              go_ret
              exact ⟨rfl, below_alloc HB3.out _⟩
      · obtain ⟨F, rfl⟩ : ∃ F : Nat, fr = (F : Int) := ⟨fr.toNat, by omega⟩
        rw [show max (F : Int) 0 = ((F : Nat) : Int) by omega] at hR
        have cO := C0.out
        clear C0
        have bigger : n < F ∨ F ≤ n := by omega
        rcases bigger with hlt | hlt
        · have hlz : (n : Int) < (F : Nat) := by omega
          rw [if_neg (fun hh => hh.2.2 hlz)] at hR
          subst hR
          go_enter Tryd.func27, Tryd.ntmps27
          go_wp2_with fail
          refine cO.mono ?_
          rintro e w1 ⟨rfl, hb⟩
          have HB := Aside0.mk hb
          have cQ := C1.out w1 hb
          clear hb C1 cO
          go_wp2_with fail
          refine cQ.mono ?_
          rintro e w2 ⟨rfl, hb⟩
          have HB2 := Aside0.mk (below_step HB.out hb)
          have kc := KC.out w2
          have HB3 := Aside0.mk (runeWorld_below HB2.out s)
          clear hb cQ
          generalize runeWorld w2 s = w3 at *
          generalize runeCap w2 s = cap at *
          go_wp2
          go_ret
          exact ⟨rfl, HB3.out⟩
        · have hlz : ¬ (n : Int) < (F : Nat) := by omega
          rw [if_pos ⟨rfl, rfl, hlz⟩, HRE.out, Int.toNat_natCast] at hR
          have CI := Aside0.mk (fun (w1 : World) (hb : Below w.heap.size w w1) => index_calls ⟨(enAll (RS.drop F)).toArray⟩ t w1 (HSZ.out F) (HT.out.below hb))
          have hsz := HSZ.out F
          have hcs := Lib.indexB_cases ⟨(enAll (RS.drop F)).toArray⟩ t
          obtain ⟨I, hI⟩ : ∃ I, Lib.indexB ⟨(enAll (RS.drop F)).toArray⟩ t = I := ⟨_, rfl⟩
          rw [hI] at CI hR hcs
          obtain ⟨X, hX⟩ : ∃ X : ByteArray, (⟨(enAll (RS.drop F)).toArray⟩ : ByteArray) = X := ⟨_, rfl⟩
          have HX := Aside0.mk hX
          rw [hX] at CI hR hcs hsz
          clear hI hX
          go_enter Tryd.func27, Tryd.ntmps27
          go_wp2_with fail
          refine cO.mono ?_
          rintro e w1 ⟨rfl, hb⟩
          have HB := Aside0.mk hb
          have cQ := C1.out w1 hb
          clear hb C1 cO
          go_wp2_with fail
          refine cQ.mono ?_
          rintro e w2 ⟨rfl, hb⟩
          have HB2 := Aside0.mk (below_step HB.out hb)
          have kc := KC.out w2
          have ka := KA.out w2
          have HB3 := Aside0.mk (runeWorld_below HB2.out s)
          clear hb cQ HB
          generalize runeWorld w2 s = w3 at *
          generalize runeCap w2 s = cap at *
          generalize w2.heap.size = g at *
          have hcap : n ≤ cap := by
            have h1 := HN.out
            obtain ⟨cs, _, h2, _⟩ := ka
            omega
          have kb : ∀ j c : Nat, (j = F ∨ n - F = 0) → (convert 78 9 (.slice (some ⟨g, j, none⟩) (n - F) c)).run Tryd.prog w3 = .ok (.string X) w3 := fun j c hj => by
            rw [← HX.out]
            exact runes_back ka HOK.out F (n - F) c j (by have := HN.out; omega) hj
          have kb1 := kb F (cap - F) (Or.inl rfl)
          have kb2 : F = cap → (convert 78 9 (.slice (some ⟨g, 0, none⟩) 0 0)).run Tryd.prog w3 = .ok (.string X) w3 := fun e => by
            have h1 := kb 0 0 (Or.inr (by omega))
            rw [show n - F = 0 by omega] at h1
            exact h1
          have cI := Aside0.mk (CI.out w3 HB3.out)
          clear ka kb KC KA CI
          (try simp only [Nat.sub_zero] at kb1)
          by_cases hc : F = cap
          all_goals
            first
            | (have kb2 := kb2 hc
               clear kb1
               subst hc
               obtain rfl : n = F := by omega)
            | clear kb2
            by_cases hI : I = -1
            · rw [if_pos hI] at hR
              subst hI
              subst hR
              clear hcs
              go_wp2_with fail
              refine cI.out.mono ?_
              rintro e w4 ⟨rfl, rfl⟩
              go_wp2
              go_ret
              exact ⟨rfl, HB3.out⟩
            · obtain ⟨i, hi, hroom⟩ := hcs.resolve_left hI
              subst hi
              rw [if_neg hI, Int.toNat_natCast] at hR
              have hcl := Lib.runeCount_le (X.extract 0 i)
              have hex : (X.extract 0 i).size ≤ 100000 := by rw [ByteArray.size_extract]; omega
              have hcl : Lib.runeCount (X.extract 0 i) ≤ 100000 := by omega
              have cN := Aside0.mk (fun W => count_runes (X.extract 0 i) W hex)
              clear hI hex
              generalize Lib.runeCount (X.extract 0 i) = N at *
              (try rw [show ((0 : Nat) : Int) + (N : Int) = N by omega] at hR)
              subst hR
              go_wp2_with fail
              refine cI.out.mono ?_
              rintro e w4 ⟨rfl, rfl⟩
              go_wp2_with fail
              refine (cN.out _).mono ?_
              rintro e w5 ⟨rfl, pos, rfl⟩
              go_wp2
              go_ret
              exact ⟨rfl, below_alloc HB3.out _⟩


def impl_TextFind.f (s t : ByteArray) (fr : Int) : Option Int := if s.size ≤ 1048576 ∧ t.size ≤ 1048576 then some (findM s t fr) else none
theorem impl_TextFind.calls (a0 a1 : ByteArray) (a2 r1 : Int) (w : World) (h : impl_TextFind.f a0 a1 a2 = some r1) (hT : TM w) :
    Calls Tryd.prog 27 #[.string a0, .string a1, .int .i64 a2] w fun e w' => e = .returned (.int .i64 r1) ∧ Below w.heap.size w w' := by
  unfold impl_TextFind.f at h
  split at h
  case isFalse => simp at h
  rename_i hs
  have h := Option.some.inj h
  subst h
  exact implFind_calls a0 a1 a2 w hs.1 hs.2 hT

set_option maxHeartbeats 1000000 in
set_option maxRecDepth 1000000 in
/-- The law on TextFind. -/
theorem lawFind_calls (s t : ByteArray) (fr : Int) (w : World) (hT : TM w) :
    Calls Tryd.prog 6 #[.string s, .string t, .int .i64 fr] w fun e w' => e = .returned (.bool true) ∧ Below w.heap.size w w' := by
  by_cases h0 : 1048576 < s.size
  · have h0z : (1048576 : Int) < (s.size : Int) := by omega
    go_enter Tryd.func6, Tryd.ntmps6
    go_wp2
    go_ret
    exact ⟨rfl, Below.refl _ _⟩
  have h0z : ¬ ((1048576 : Int) < (s.size : Int)) := by omega
  by_cases h1 : 1048576 < t.size
  · have h1z : (1048576 : Int) < (t.size : Int) := by omega
    go_enter Tryd.func6, Tryd.ntmps6
    go_wp2
    go_ret
    exact ⟨rfl, Below.refl _ _⟩
  have h1z : ¬ ((1048576 : Int) < (t.size : Int)) := by omega
  have HT := Aside0.mk hT
  have cS := spec_TextFind.calls 500000 s t fr (findM s t fr) w (specFind s t fr)
  have CI := Aside0.mk (fun (w1 : World) (hb : Below w.heap.size w w1) => implFind_calls s t fr w1 (by omega) (by omega) (HT.out.below hb))
  clear hT
  generalize findM s t fr = V at *
  go_enter Tryd.func6, Tryd.ntmps6
  go_wp2_with fail
  refine cS.mono ?_
  rintro e w1 ⟨rfl, hb⟩
  have HB := Aside0.mk hb
  have cI := CI.out w1 hb
  clear hb cS
  go_wp2_with fail
  refine cI.mono ?_
  rintro e w2 ⟨rfl, hb⟩
  have HB2 := Aside0.mk (below_step HB.out hb)
  clear hb cI
  go_wp2
  go_ret
  exact ⟨rfl, HB2.out⟩

end Go.Proofs.YtfgiodolgmfdoaaDoor.PT
