/- all of the reference's sort. No condition beyond those of the theorems. -/
import Derived.Test.YtdibbgldclgokaaGRunS
import Derived.Test.YtdibbgldclgokaaSortC
namespace Go.Proofs.Ytdibbgldclgokaa.PS
open Go.RowKit Go.Proofs.YtdibbgldclgokaaW.PrintWords Go.Proofs.YtdibbgldclgokaaW.PrintLast Go.Proofs.YtdibbgldclgokaaW.PrintMore Go.Proofs.Ytdibbgldclgokaa.SortM
set_option linter.unusedVariables false
set_option linter.unusedSimpArgs false

theorem Teller.up {O : Oracle} {g : Nat} {n : Int} {b0 b1 : Nat} {I : Bool → Asked → (Nat → Prop) → World → Prop} (h : Teller O g n b0 I) (hb : b0 ≤ b1) : Teller O g n b1 I :=
  ⟨h.ask, h.stop, h.lt, fun st s C w w' hI hw hs => h.keep st s C w w' hI (fun k hk => hw k (hk.imp id (fun h => by omega))) hs⟩
theorem runs_on {O : Oracle} {n i j : Int} {f : Nat} {s s' : Asked} {R : List (List Int)} {r : List Int} (hi : i < n) (h : run1 O n s i = (s', some (r, j))) : runs O n (f + 1) s i R = runs O n f s' j (R ++ [r]) := by
  rw [runs, if_pos hi, h]
theorem runs_none {O : Oracle} {n i : Int} {f : Nat} {s s' : Asked} {R : List (List Int)} (hi : i < n) (h : run1 O n s i = (s', none)) : runs O n (f + 1) s i R = (s', none) := by
  rw [runs, if_pos hi, h]
theorem runs_stop' {O : Oracle} {n i : Int} {f : Nat} {s : Asked} {R : List (List Int)} (hi : ¬ i < n) : runs O n f s i R = (s, some R) := by
  cases f with
  | zero => rfl
  | succ f => rw [runs, if_neg hi]
/-- The end of the sort: by its two parts. -/
theorem sort_end {O : Oracle} {N : Nat} {st0 st1 : Bool} {s1 s2 : Asked} {R R' : List (List Int)} (T1 : Tgt false [] (runs O (N : Int) N [] 0 []) st0 s1 (s1, some R)) (T2 : Tgt st0 s1 (passes O R.length s1 R) st1 s2 (s2, some R')) :
    sort O (N : Int) = (s2, if st1 = true then none else some (R'.getD 0 [])) := by
  cases st0 with
  | true =>
    obtain ⟨rfl, rfl⟩ := T2.1 rfl
    unfold sort
    rw [Int.toNat_natCast, T1.2.2 rfl rfl]
    rfl
  | false =>
    have h1 := (T1.2.1 rfl rfl).symm
    cases st1 with
    | true => rw [sort_none h1 (T2.2.2 rfl rfl)]; rfl
    | false => rw [sort_of h1 (T2.2.1 rfl rfl).symm]; rfl

set_option maxRecDepth 100000 in
set_option maxHeartbeats 2000000 in
theorem all_calls {O : Oracle} {g N : Nat} {I : Bool → Asked → (Nat → Prop) → World → Prop} {C0 : Nat → Prop} {w0 : World} (hN : N ≤ 2000) (hT : Teller O g (N : Int) w0.heap.size I) (hI : I false [] C0 w0) :
    Calls Try.prog 30 #[.pointer (some ⟨g, 0, none⟩), .int .i64 (N : Int)] w0 fun e w' => ∃ v L st' s' C', e = .returned v ∧ I st' s' C' w' ∧ Moved C0 C' w0 w' ∧ Kd.R (Kd.int .i64) 2 w' w0.heap.size (fun k => ¬ C' k) v L ∧ sort O (N : Int) = (s', if st' = true then none else some L) := by
  have HT := Aside0.mk hT
  have HS0 := Aside0.mk (show St (I false) C0 w0 [] C0 (w0.alloc (.cells #[] 24)) from (St.mk hI (Moved.refl _ _) (hT.lt _ _ _ _ hI)).alloc (hT.asker false) _)
  have HU0 := Aside0.mk (show Kd.R (Kd.slice 2 (Kd.int .i64)) 24 (w0.alloc (.cells #[] 24)) w0.heap.size (fun k => ¬ C0 k) (.slice (some ⟨w0.heap.size, 0, none⟩) 0 0) [] from
    ⟨fun k hk hc => by
      have e2 : w0.heap.size = k := by simpa [Value.ownBlock] using hk
      have := hT.lt _ _ _ _ hI k hc
      omega, [], World.ownsRow_lit (base := w0.heap.size) (e := 24) (size := 1) w0 #[] 0 (Nat.le_refl _) (by decide) rfl, ⟨rfl, fun j p hj => by simp at hj⟩⟩)
  clear hT hI
  go_enter Try.func30, Try.ntmps30
  go_upto_block 0 with fail
  go_cut [5] (fun s5 wx => ∃ (st : Bool) (s : Asked) (C : Nat → Prop) (R : List (List Int)), Aside0 (Tgt false [] (runs O (N : Int) N [] 0 []) st s (s, some R)) ∧ Aside0 (s.length ≤ N * 2061 ∧ R.length ≤ N ∧ R.flatten.length ≤ N ∧ ∀ l ∈ R, RowOk N l) ∧ Aside0 (St (I st) C0 w0 s C wx) ∧ Aside0 (Kd.R (Kd.slice 2 (Kd.int .i64)) 24 wx w0.heap.size (fun k => ¬ C k) s5 R))
  case first =>
    go_wp2_with fail
    go_loopg [5, 6] N (fun kq v5 v6 w' => ∃ (i f : Nat) (st : Bool) (s : Asked) (C : Nat → Prop) (R : List (List Int)), v6 = .int .i64 (i : Int) ∧ i ≤ N ∧ N ≤ i + kq ∧ N ≤ i + f ∧ Aside0 (Tgt false [] (runs O (N : Int) N [] 0 []) st s (runs O (N : Int) f s (i : Int) R)) ∧ Aside0 (s.length ≤ i * 2061 ∧ R.length ≤ i ∧ R.flatten.length = i ∧ ∀ l ∈ R, RowOk N l) ∧ Aside0 (St (I st) C0 w0 s C w') ∧ Aside0 (Kd.R (Kd.slice 2 (Kd.int .i64)) 24 w' w0.heap.size (fun k => ¬ C k) v5 R))
    case atStart => exact ⟨0, N, false, [], C0, [], by first | rfl | simp, by omega, by omega, by omega, ⟨Tgt.mk0 _ _ _ (fun _ => .inr trivial)⟩, ⟨by simp, by simp, rfl, fun l hl => by cases hl⟩, HS0, HU0⟩
    case round =>
      clear HS0 HU0
      obtain ⟨i, f, st, s, C, R, rfl, hiN, hkq, hf, HTG, HQ, HS, HU⟩ := hrel
      have hstop := HT.out.stop st s C wr HS.out.inv
      by_cases hc : i < N ∧ st = false
      · obtain ⟨hi, rfl⟩ := hc
        obtain ⟨jq, rfl⟩ : ∃ q, gk = q + 1 := ⟨gk - 1, by omega⟩
        obtain ⟨f, rfl⟩ : ∃ q, f = q + 1 := ⟨f - 1, by omega⟩
        have CALL := Aside0.mk (run_calls (C0 := C) (w0 := wr) (s0 := s) hN (HT.out.up HS.out.mv.size) HS.out.inv hi (by have := HQ.out.1; have h2 : i * 2061 ≤ 2000 * 2061 := Nat.mul_le_mul_right _ (by omega); omega))
        go_wp2_with fail
        refine Calls.mono CALL.out ?_
        rintro e w1 ⟨v, L, st1, s1, C1, j, rfl, HR, hij, hjN, hLl, hLr, hrun⟩
        obtain ⟨a8, c8, n8, rfl⟩ := ow_shape HR.own
        have HRL := Aside0.mk (show R.length ≤ 2000 by have := HQ.out.2.1; omega)
        have HU1 := Aside0.mk (Kd.R_mono (row_moved (P := fun _ => True) (Kd.R_mono HU.out (fun k hk => ⟨hk, trivial⟩)) HR.st.mv) (ok' := fun k => ¬ C1 k) (fun k hk => hk.1))
        have HX1 := Aside0.mk (keep_run (ow_down HR.own HS.out.mv.size) HR.off)
        have HX3 := Aside0.mk (show ∀ k, (¬ C1 k ∧ (Value.slice a8 n8 c8).ownBlock = some k) → ¬ C1 k ∧ some k ≠ u5.ownBlock from fun k hk => ⟨hk.1, fun e => by
          have h1 := (HR.own.lt k hk.2).1
          have h2 := Kd.R_lt HU.out k e.symm
          omega⟩)
        have hS1 : St (I st1) C0 w0 s1 C1 w1 := ⟨HR.st.inv, HS.out.mv.trans HR.st.mv, HR.st.lt⟩
        have HS1 := Aside0.mk hS1
        have HX4 := Aside0.mk (show ∀ k, w1.heap.size ≤ k → ¬ C1 k from fun k hk => hS1.new hk)
        have hwz : w0.heap.size ≤ w1.heap.size := hS1.mv.size
        have hgrow := (run1_few (N : Int) (i : Int) O s _ _ hrun).1
        have HQ2 := Aside0.mk (show s1.length ≤ j * 2061 ∧ (R ++ [L]).length ≤ j ∧ (R ++ [L]).flatten.length = j ∧ ∀ l ∈ R ++ [L], RowOk N l by
          obtain ⟨h1, h2, h3, h4⟩ := HQ.out
          rw [Int.toNat_natCast] at hgrow
          refine ⟨?_, by rw [List.length_append, List.length_singleton]; omega, by rw [List.flatten_append, List.length_append, List.flatten_cons, List.flatten_nil, List.append_nil]; omega, fun l hl => ?_⟩
          · have h5 : (i + 1) * 2061 ≤ j * 2061 := Nat.mul_le_mul_right _ (by omega)
            rw [Nat.add_mul] at h5
            omega
          · rcases List.mem_append.1 hl with hl | hl
            · exact h4 l hl
            · rw [List.mem_singleton.1 hl]
              exact ⟨by omega, hLr⟩)
        have HTG2 := Aside0.mk (show Tgt false [] (runs O (N : Int) N [] 0 []) st1 s1 (runs O (N : Int) f s1 (j : Int) (R ++ [L])) by
          cases st1 with
          | true => exact HTG.out.halt (runs_none (by omega) hrun)
          | false => exact HTG.out.on (runs_on (by omega) hrun).symm)
        clear hstop CALL HR hLr hrun hS1 hgrow hLl HTG HQ HS HU
        go_wp2_with (first | (at_builtin; (refine Kd.R_append (Kd.slice 2 (Kd.int .i64)) (w0 := w1) (W := w1) w0.heap.size ?hgd (.tmp 29) (.tmp 31) 62 24 (.slice none 0 0) 24 ?ho Try.underlying62 info24' rfl (by decide) (by decide) u5 R L [.slice a8 n8 c8] (fun k => ¬ C1 k) (fun k => ¬ C1 k ∧ (Value.slice a8 n8 c8).ownBlock = some k) ?hs ?hx HX1.out HX3.out HX4.out HU1.out (Below.refl _ _) hwz (by have := HRL.out; omega) ?hk; (case hgd => rfl); (case ho => rfl); (case hs => rfl); (case hx => rfl); intro v1 w5 hR5 hb5 hg5 hat5)) | fail)
        have HU5 := Aside0.mk hR5
        have HS5 := Aside0.mk (HS1.out.grown (HT.out.asker st1) hg5 (fun k hk => ⟨(HU1.out.1 k hk), (Kd.R_base HU1.out k hk)⟩))
        clear hR5 hb5 hg5 hat5 HX1 HX3 HX4 HS1 HU1
        go_roundg jq
        case measure => omega
        case rel => exact ⟨j, f, st1, s1, C1, R ++ [L], by first | rfl | simp, hjN, by omega, by omega, HTG2, HQ2, HS5, HU5⟩
      · have HTG2 := Aside0.mk (show Tgt false [] (runs O (N : Int) N [] 0 []) st s (s, some R) by
          cases st with
          | true => exact HTG.out.stay
          | false => exact HTG.out.on (runs_stop' (fun h => hc ⟨by omega, rfl⟩)).symm)
        have HQ2 := Aside0.mk (show s.length ≤ N * 2061 ∧ R.length ≤ N ∧ R.flatten.length ≤ N ∧ ∀ l ∈ R, RowOk N l by
          obtain ⟨h1, h2, h3, h4⟩ := HQ.out
          have h5 : i * 2061 ≤ N * 2061 := Nat.mul_le_mul_right _ hiN
          exact ⟨by omega, by omega, by omega, h4⟩)
        by_cases hi : i < N
        · have hst : st = true := by
            cases st with
            | true => rfl
            | false => exact absurd ⟨hi, rfl⟩ hc
          subst hst
          clear hc
          go_wp2_with fail
          go_meet
          exact ⟨true, s, C, R, HTG2, HQ2, HS, HU⟩
        · clear hc
          go_wp2_with fail
          go_meet
          exact ⟨st, s, C, R, HTG2, HQ2, HS, HU⟩
  case rest =>
    clear HS0 HU0
    obtain ⟨st, s, C, R, HRU, HQR, HS, HU⟩ := hcut
    go_upto_block 2 with fail
    obtain ⟨X0, hX0⟩ : ∃ X, passes O R.length s R = X := ⟨_, rfl⟩
    have HX0 := Aside0.mk hX0
    have HTP0 := Aside0.mk (show Tgt st s X0 st s (passes O R.length s R) by rw [hX0]; exact Tgt.mk0 _ _ _ (fun _ => .inr trivial))
    clear hX0
    go_cut [5] (fun s5 wx => ∃ (st1 : Bool) (s1 : Asked) (C1 : Nat → Prop) (R1 : List (List Int)), Aside0 (Tgt st s X0 st1 s1 (s1, some R1)) ∧ Aside0 (∀ l ∈ R1, RowOk N l) ∧ Aside0 (St (I st1) C0 w0 s1 C1 wx) ∧ Aside0 (Kd.R (Kd.slice 2 (Kd.int .i64)) 24 wx w0.heap.size (fun k => ¬ C1 k) s5 R1))
    case first =>
      go_wp2_with fail
      go_loopg [5] N (fun kq v5 w' => ∃ (f : Nat) (st1 : Bool) (s1 : Asked) (C1 : Nat → Prop) (R1 : List (List Int)), R1.length ≤ f ∧ R1.length ≤ kq + 1 ∧ R1.length ≤ 2000 ∧ Aside0 (Tgt st s X0 st1 s1 (passes O f s1 R1)) ∧ Aside0 (s1.length + 2000 * R1.length ≤ 8122000) ∧ Aside0 (R1.flatten.length ≤ N ∧ ∀ l ∈ R1, RowOk N l) ∧
        Aside0 (St (I st1) C0 w0 s1 C1 w') ∧ Aside0 (Kd.R (Kd.slice 2 (Kd.int .i64)) 24 w' w0.heap.size (fun k => ¬ C1 k) v5 R1))
      case atStart => exact ⟨R.length, st, s, C, R, Nat.le_refl _, by have := HQR.out.2.1; omega, by have := HQR.out.2.1; omega, HTP0, ⟨by have := HQR.out.1; have := HQR.out.2.1; have h5 : N * 2061 ≤ 2000 * 2061 := Nat.mul_le_mul_right _ hN; omega⟩, ⟨HQR.out.2.2⟩, HS, HU⟩
      case round =>
        clear HS HU HTP0
        obtain ⟨f, st1, s1, C1, R1, hf, hkq, hr2, HTP, HQ, HRO, HS, HU⟩ := hrel
        have hstop := HT.out.stop st1 s1 C1 wr HS.out.inv
        by_cases hc : 1 < R1.length ∧ st1 = false
        · obtain ⟨hc, rfl⟩ := hc
          obtain ⟨f, rfl⟩ : ∃ q, f = q + 1 := ⟨f - 1, by omega⟩
          obtain ⟨jq, rfl⟩ : ∃ q, gk = q + 1 := ⟨gk - 1, by omega⟩
          obtain ⟨g6, c6, rfl, hg6, hl6, _⟩ := Kd.R_form HU.out (by omega)
          obtain ⟨h0, hh0⟩ : ∃ h, wr.heap.size = h := ⟨_, rfl⟩
          have HU0 := Aside0.mk (show Kd.R (Kd.slice 2 (Kd.int .i64)) 24 (wr.alloc (.cells #[] 24)) w0.heap.size (fun k => ¬ C1 k ∧ k < h0) (.slice (some ⟨g6, 0, none⟩) R1.length c6) R1 from Kd.R_below (Kd.R_mono (Kd.R_bound HU.out) (fun k hk => ⟨hk.1, by rw [← hh0]; exact hk.2.2.1⟩)) (below_alloc (Below.refl _ _) _))
          have h00 : w0.heap.size ≤ h0 := by rw [← hh0]; exact HS.out.mv.size
          have HS0 := Aside0.mk (HS.out.alloc (HT.out.asker false) (.cells #[] 24))
          have HNX0 := Aside0.mk (show Kd.R (Kd.slice 2 (Kd.int .i64)) 24 (wr.alloc (.cells #[] 24)) w0.heap.size (fun k => ¬ C1 k ∧ h0 ≤ k) (.slice (some ⟨wr.heap.size, 0, none⟩) 0 0) [] from
            ⟨fun k hk => by
              have e2 : wr.heap.size = k := by simpa [Value.ownBlock] using hk
              exact ⟨HS.out.new (by omega), by omega⟩, [], World.ownsRow_lit (base := w0.heap.size) (e := 24) (size := 1) wr #[] 0 (by omega) (by decide) rfl, ⟨rfl, fun j p hj => by simp at hj⟩⟩)
          have hhw : h0 ≤ (wr.alloc (.cells #[] 24)).heap.size := by simp; omega
          obtain ⟨n6, hn6⟩ : ∃ n, R1.length = n := ⟨_, rfl⟩
          rw [hn6] at hf hkq hr2 hc HU0
          rw [hn6]
          have HN6 := Aside0.mk hn6
          clear hn6 HU HS hh0
          go_upto_block 4 with fail
          obtain ⟨P1, hP1⟩ : ∃ X, pass O s1 R1 [] = X := ⟨_, rfl⟩
          have HP1 := Aside0.mk hP1
          have HTA0 := Aside0.mk (show Tgt false s1 P1 false s1 (pass O s1 (R1.drop 0) []) by rw [List.drop_zero, hP1]; exact Tgt.mk0 _ _ _ (fun _ => .inr trivial))
          clear hP1 hstop
          go_cut [9] (fun s9 wx => ∃ (st2 : Bool) (s2 : Asked) (C2 : Nat → Prop) (X : List (List Int)), 2 * X.length ≤ n6 + 1 ∧ Aside0 (Tgt false s1 P1 st2 s2 (s2, some X)) ∧ Aside0 (X.flatten.length ≤ N ∧ ∀ l ∈ X, RowOk N l) ∧ Aside0 (s2.length ≤ s1.length + N) ∧ Aside0 (St (I st2) C0 w0 s2 C2 wx) ∧ Aside0 (Kd.R (Kd.slice 2 (Kd.int .i64)) 24 wx w0.heap.size (fun k => ¬ C2 k) s9 X))
          case first =>
            go_wp2_with fail
            go_loopg [9, 10] n6 (fun kq v9 v10 w' => ∃ (k : Nat) (st2 : Bool) (s2 : Asked) (C2 : Nat → Prop) (X : List (List Int)), v10 = .int .i64 (k : Int) ∧ k ≤ n6 + 1 ∧ n6 ≤ k + 2 * kq ∧ 2 * X.length = k ∧ h0 ≤ w'.heap.size ∧ Aside0 (Tgt false s1 P1 st2 s2 (pass O s2 (R1.drop k) X)) ∧
              Aside0 (s2.length + (R1.drop k).flatten.length ≤ s1.length + N ∧ X.flatten.length + (R1.drop k).flatten.length ≤ N ∧ ∀ l ∈ X, RowOk N l) ∧ Aside0 (St (I st2) C0 w0 s2 C2 w') ∧
              Aside0 (Kd.R (Kd.slice 2 (Kd.int .i64)) 24 w' w0.heap.size (fun k => ¬ C2 k ∧ k < h0) (.slice (some ⟨g6, 0, none⟩) n6 c6) R1) ∧ Aside0 (Kd.R (Kd.slice 2 (Kd.int .i64)) 24 w' w0.heap.size (fun q => ¬ C2 q ∧ (h0 ≤ q ∨ n6 < k)) v9 X))
            case atStart => exact ⟨0, false, s1, C1, [], by first | rfl | simp, by omega, by omega, rfl, hhw, HTA0, ⟨by have := HRO.out.1; rw [List.drop_zero]; omega, by have := HRO.out.1; rw [List.drop_zero, List.flatten_nil, List.length_nil, Nat.zero_add]; exact this, fun l hl => by cases hl⟩, HS0, HU0, ⟨Kd.R_mono HNX0.out (fun q hq => ⟨hq.1, .inl hq.2⟩)⟩⟩
            case round =>
              clear HS0 HU0 HNX0 hhw HTA0
              obtain ⟨k, st2, s2, C2, X, rfl, hkn, hkk, hX, hhw, HPA, HX, HS, HU, HNX⟩ := hrel
              by_cases hk : k < n6
              · obtain ⟨jq3, rfl⟩ : ∃ q, gk = q + 1 := ⟨gk - 1, by omega⟩
                by_cases hk1 : k + 1 = n6
                · obtain ⟨A, hA, hdr⟩ := drop_one (R := R1) (k := k) (by rw [HN6.out]; exact hk1)
                  have hAok := HRO.out.2 A (List.mem_of_getElem? hA)
                  obtain ⟨ga, na, ca, hcell, hrow⟩ := run_at HU.out hA hAok.1
                  have hdr2 : R1.drop (k + 2) = [] := List.drop_eq_nil_of_le (by rw [HN6.out]; omega)
                  rw [hdr] at HPA HX
                  have HPA2 := Aside0.mk (show Tgt false s1 P1 st2 s2 (pass O s2 (R1.drop (k + 2)) (X ++ [A])) by
                    rw [hdr2]
                    cases st2 with
                    | true => exact HPA.out.stay
                    | false => exact HPA.out.on (by rw [pass_last, pass_end]))
                  have HX1 := Aside0.mk (show (Kd.slice 2 (Kd.int .i64)).M wr w0.heap.size (fun q => ¬ C2 q ∧ q = ga) A [.slice (some ⟨ga, 0, none⟩) na ca] from ⟨_, rfl, Kd.R_of_own (by have h := hrow.own; rw [← hrow.len] at h ⊢; exact h) (fun q hq => by
                    have : ga = q := by simpa [Value.ownBlock] using hq
                    rw [← this]; exact ⟨hrow.off, rfl⟩)⟩)
                  have HX2 := Aside0.mk (Kd.R_mono HNX.out (ok' := fun q => ¬ C2 q) (fun q hq => hq.1))
                  have HX3 := Aside0.mk (show ∀ q, (¬ C2 q ∧ q = ga) → ¬ C2 q ∧ some q ≠ u9.ownBlock from fun q hq => ⟨hq.1, fun e => by
                    have h1 := (HNX.out.1 q e.symm).2
                    have h2 := hrow.lt
                    have h3 := hq.2
                    omega⟩)
                  have HX4 := Aside0.mk (show ∀ q, wr.heap.size ≤ q → ¬ C2 q from fun q hq => HS.out.new hq)
                  have hwz : w0.heap.size ≤ wr.heap.size := HS.out.mv.size
                  have HAL := Aside0.mk hAok
                  clear hA hdr hrow hAok
                  go_wp2_with (first | (at_builtin; (refine Kd.R_append (Kd.slice 2 (Kd.int .i64)) (w0 := wr) (W := wr) w0.heap.size ?hgd2 (.tmp 70) (.tmp 75) 62 24 (.slice none 0 0) 24 ?ho2 Try.underlying62 info24' rfl (by decide) (by decide) u9 X A [.slice (some ⟨ga, 0, none⟩) na ca] (fun q => ¬ C2 q) (fun q => ¬ C2 q ∧ q = ga) ?hs2 ?hx2 HX1.out HX3.out HX4.out HX2.out (Below.refl _ _) hwz (by omega) ?hk2; (case hgd2 => rfl); (case ho2 => rfl); (case hs2 => rfl); (case hx2 => rfl); intro v1 w5 hR5 hb5 hg5 hat5)) | fail)
                  have HU5 := Aside0.mk hR5
                  have HS5 := Aside0.mk (HS.out.grown (HT.out.asker st2) hg5 (fun q hq => ⟨(HX2.out.1 q hq), (Kd.R_base HX2.out q hq)⟩))
                  have HUU := Aside0.mk (Kd.R_step HU.out (w1 := w5) (fun q hq hlt => hg5.block q hlt (fun e => by
                    have h1 := (HNX.out.1 q e.symm).2
                    have h2 := hq.2
                    omega)))
                  have hhw5 : h0 ≤ w5.heap.size := Nat.le_trans hhw hg5.size
                  have HX5 := Aside0.mk (show s2.length + (R1.drop (k + 2)).flatten.length ≤ s1.length + N ∧ (X ++ [A]).flatten.length + (R1.drop (k + 2)).flatten.length ≤ N ∧ ∀ l ∈ X ++ [A], RowOk N l by
                    obtain ⟨h1, h2, h3⟩ := HX.out
                    rw [hdr2, List.flatten_nil, List.length_nil]
                    refine ⟨by omega, ?_, fun l hl => ?_⟩
                    · rw [List.flatten_append, List.length_append]
                      exact h2
                    · rcases List.mem_append.1 hl with hl | hl
                      · exact h3 l hl
                      · rw [List.mem_singleton.1 hl]; exact HAL.out)
                  clear hR5 hb5 hg5 hat5 HX1 HX2 HX3 HX4 HS HU HNX hdr2
                  go_roundg jq3
                  case measure => omega
                  case rel => exact ⟨k + 2, st2, s2, C2, X ++ [A], by first | rfl | simp, by omega, by omega, by rw [List.length_append, List.length_singleton]; omega, hhw5, HPA2, HX5, HS5, HUU, ⟨Kd.R_mono HU5.out (fun q hq => ⟨hq, .inr (by omega)⟩)⟩⟩
                · obtain ⟨A, B, hA, hB, hdr⟩ := drop_two (R := R1) (k := k) (by rw [HN6.out]; omega)
                  have hAok := HRO.out.2 A (List.mem_of_getElem? hA)
                  have hBok := HRO.out.2 B (List.mem_of_getElem? hB)
                  obtain ⟨ga, na, ca, hca, hra⟩ := run_at HU.out hA hAok.1
                  obtain ⟨gb, nb, cb, hcb, hrb⟩ := run_at HU.out hB hBok.1
                  rw [hdr] at HPA HX
                  have hgd : wr.grownBy wr.drew none := ⟨rfl, rfl, rfl, Nat.le_refl _, fun _ _ _ => rfl⟩
                  have hna : na ≤ ca := hown_cap hra.own
                  have hnb : nb ≤ cb := hown_cap hrb.own
                  have HLA := Aside0.mk hra.len
                  have HLB := Aside0.mk hrb.len
                  have hnab : na + nb ≤ 2000 := by
                    have h1 := HX.out.2.1
                    rw [List.flatten_cons, List.flatten_cons, List.length_append, List.length_append, HLA.out, HLB.out] at h1
                    omega
                  have MC := Aside0.mk (merge_calls (nx := u9) (X := X) (s := s2) (st := st2) HT.out hnab h00 (show h0 ≤ wr.drew.heap.size from hhw) (by have := HX.out.1; have := HQ.out; omega) hna hnb hAok.2 hBok.2 (HS.out.drewN (HT.out.asker st2) 1) (Kd.R_step HU.out (w1 := wr.drew) (fun _ _ _ => rfl)) (hra.grown (row := none) hgd (by simp)) (hrb.grown (row := none) hgd (by simp)) (Kd.R_mono (Kd.R_step HNX.out (w1 := wr.drew) (fun _ _ _ => rfl)) (fun q hq => ⟨hq.1, hq.2.resolve_right (by omega)⟩)))
                  have HXR := Aside0.mk (show na = A.length ∧ nb = B.length ∧ 1 ≤ A.length ∧ 1 ≤ B.length from ⟨hra.len.symm, hrb.len.symm, hAok.1, hBok.1⟩)
                  have hk3 : k + 1 < n6 := by omega
                  clear hA hB hdr hra hrb HU HNX HS hAok hBok hgd
                  go_upto_block 5 with fail
                  go_cut [9] (fun s9 wx => ∃ (Z : List Int) (st3 : Bool) (s3 : Asked) (C3 : Nat → Prop), h0 ≤ wx.heap.size ∧ Aside0 (Z.length = na + nb ∧ ∀ z ∈ Z, 0 ≤ z ∧ z < (N : Int)) ∧ Aside0 (s3.length ≤ s2.length + (na + nb)) ∧ Aside0 (Tgt st2 s2 (merge O (A.length + B.length) s2 A B []) st3 s3 (s3, some Z)) ∧ Aside0 (St (I st3) C0 w0 s3 C3 wx) ∧
                    Aside0 (Kd.R (Kd.slice 2 (Kd.int .i64)) 24 wx w0.heap.size (fun k => ¬ C3 k ∧ k < h0) (.slice (some ⟨g6, 0, none⟩) n6 c6) R1) ∧ Aside0 (Kd.R (Kd.slice 2 (Kd.int .i64)) 24 wx w0.heap.size (fun k => ¬ C3 k ∧ h0 ≤ k) s9 (X ++ [Z])))
                  case first =>
                    go_upto_region 13 with fail
                    have hw1 : IntKind.i64.wrap ((k : Int) + 1) = (k : Int) + 1 := by rw [IntKind.wrap_i64]; omega
                    have hw2 : (0 : Int) ≤ (k : Int) + 1 := by omega
                    have hw3 : (k : Int) + 1 < (n6 : Int) := by omega
                    have hw4 : (0 : Int) ≤ (k : Int) := by omega
                    have hw5 : (k : Int) < (n6 : Int) := by omega
                    go_region_law (first
                      | (refine Kd.R_append_step (Kd.slice 2 (Kd.int .i64)) (w0 := w2) (W := w2) w0.heap.size (by rfl) (.tmp 56) (.tmp 68) 62 24 (.slice none 0 0) 24 rfl Try.underlying62 info24' rfl (by decide) (by decide) u9 X Z [.slice a8 n8 c8] (fun k => ¬ C3 k ∧ h0 ≤ k) (fun k => ¬ C3 k ∧ (Value.slice a8 n8 c8).ownBlock = some k) rfl rfl Y1.out Y3.out Y4.out Y2.out (Below.refl _ _) Y5.out (by have := Y6.out; omega) ?_; intro v7 w7 hR7 hb7 hg7 hat7;
                          have Y7 := Aside0.mk hR7; have Y8 := Aside0.mk hg7; clear hR7 hb7 hg7 hat7)
                      | (go_simp; (with_reducible refine Calls.mono MC.out ?_); rintro e w2 ⟨vz, Z, st3, s3, C3, rfl, hh2, hmg, hzl, hzr, hq3, htg⟩;
                          obtain ⟨a8, c8, n8, rfl⟩ := ow_shape hmg.own;
                          have Y0 := Aside0.mk hmg;
                          have Y1 := Aside0.mk (keep_run (ow_down hmg.own h00) hmg.off);
                          have Y2 := Aside0.mk (Kd.R_mono hmg.next (ok' := fun k => ¬ C3 k ∧ h0 ≤ k) (fun k hk => ⟨hk.1, hk.2.1⟩));
                          have Y3 := Aside0.mk (show ∀ k, (¬ C3 k ∧ (Value.slice a8 n8 c8).ownBlock = some k) → (¬ C3 k ∧ h0 ≤ k) ∧ some k ≠ u9.ownBlock from fun k hk => ⟨⟨hk.1, (hmg.own.lt k hk.2).1⟩, fun e => (hmg.next.1 k e.symm).2.2 hk.2.symm⟩);
                          have Y4 := Aside0.mk (show ∀ k, w2.heap.size ≤ k → (¬ C3 k ∧ h0 ≤ k) from fun k hk => ⟨hmg.st.new hk, Nat.le_trans hh2 hk⟩);
                          have Y5 := Aside0.mk (show w0.heap.size ≤ w2.heap.size from Nat.le_trans h00 hh2);
                          have Y6 := Aside0.mk (show X.length ≤ 2000 by omega);
                          have Y9 := Aside0.mk (show h0 ≤ w2.heap.size ∧ (Z.length = na + nb ∧ ∀ z ∈ Z, 0 ≤ z ∧ z < (N : Int)) ∧ s3.length ≤ s2.length + (na + nb) ∧ Tgt st2 s2 (merge O (A.length + B.length) s2 A B []) st3 s3 (s3, some Z) from ⟨hh2, ⟨hzl, hzr⟩, hq3, htg⟩);
                          clear hh2 hmg hzl hzr hq3 htg;
                          go_simp))
                    all_goals go_wp2
                    all_goals go_meet
                    all_goals exact ⟨Z, st3, s3, C3, Nat.le_trans Y9.out.1 Y8.out.size, ⟨Y9.out.2.1⟩, ⟨Y9.out.2.2.1⟩, ⟨Y9.out.2.2.2⟩, ⟨Y0.out.st.grown (HT.out.asker st3) Y8.out (fun q hq => ⟨(Y2.out.1 q hq).1, Kd.R_base Y2.out q hq⟩)⟩, ⟨Kd.R_step Y0.out.rows (w1 := w7) (fun q hq hlt => Y8.out.block q hlt (fun e => by
                      have h1 := (Y0.out.next.1 q e.symm).2.1
                      have h2 := hq.2
                      omega))⟩, Y7⟩
                  case rest =>
                    clear MC hca hcb hhw
                    obtain ⟨Z, st3, s3, C3, hhw, HZ, HQ3, HTM, HS, HU, HNX⟩ := hcut
                    have HPA2 := Aside0.mk (show Tgt false s1 P1 st3 s3 (pass O s3 (R1.drop (k + 2)) (X ++ [Z])) by
                      cases st2 with
                      | true =>
                        obtain ⟨rfl, rfl⟩ := HTM.out.1 rfl
                        exact HPA.out.stay
                      | false =>
                        cases st3 with
                        | true => exact HPA.out.halt (pass_none (HTM.out.2.2 rfl rfl))
                        | false => exact HPA.out.on (pass_on (HTM.out.2.1 rfl rfl).symm).symm)
                    have HX5 := Aside0.mk (show s3.length + (R1.drop (k + 2)).flatten.length ≤ s1.length + N ∧ (X ++ [Z]).flatten.length + (R1.drop (k + 2)).flatten.length ≤ N ∧ ∀ l ∈ X ++ [Z], RowOk N l by
                      obtain ⟨h1, h2, h3⟩ := HX.out
                      have h4 := HZ.out.1
                      have h5 := HQ3.out
                      obtain ⟨h6, h7, h8, h9⟩ := HXR.out
                      rw [List.flatten_cons, List.flatten_cons, List.length_append, List.length_append] at h1 h2
                      refine ⟨by omega, ?_, fun l hl => ?_⟩
                      · rw [List.flatten_append, List.length_append, List.flatten_cons, List.flatten_nil, List.append_nil]
                        omega
                      · rcases List.mem_append.1 hl with hl | hl
                        · exact h3 l hl
                        · rw [List.mem_singleton.1 hl]; exact ⟨by omega, HZ.out.2⟩)
                    clear HPA HTM HX
                    go_wp2_with fail
                    go_roundg jq3
                    case measure => omega
                    case rel => exact ⟨k + 2, st3, s3, C3, X ++ [Z], by first | rfl | simp, by omega, by omega, by rw [List.length_append, List.length_singleton]; omega, hhw, HPA2, HX5, HS, HU, ⟨Kd.R_mono HNX.out (fun q hq => ⟨hq.1, .inl hq.2⟩)⟩⟩
              · have hdr : R1.drop k = [] := List.drop_eq_nil_of_le (by rw [HN6.out]; omega)
                rw [hdr] at HPA HX
                have HPA2 := Aside0.mk (show Tgt false s1 P1 st2 s2 (s2, some X) by
                  cases st2 with
                  | true => exact HPA.out.stay
                  | false => exact HPA.out.on (by rw [pass_end]))
                go_wp2_with fail
                go_meet
                exact ⟨st2, s2, C2, X, by omega, HPA2, ⟨by have := HX.out.2.1; simpa using this, HX.out.2.2⟩, ⟨by have := HX.out.1; simp at this; omega⟩, HS, ⟨Kd.R_mono HNX.out (fun k hk => hk.1)⟩⟩
          case rest =>
            clear HS0 HU0 HNX0 hhw HTA0
            obtain ⟨st2, s2, C2, X, hX, HPA, HXO, HQ2, HS2, HNX⟩ := hcut
            have HTP2 := Aside0.mk (show Tgt st s X0 st2 s2 (passes O f s2 X) by
              cases st2 with
              | true => exact HTP.out.halt (passes_none (by rw [HN6.out]; omega) (by rw [HP1.out]; exact HPA.out.2.2 rfl rfl))
              | false => exact HTP.out.on (passes_on (by rw [HN6.out]; omega) (by rw [HP1.out]; exact (HPA.out.2.1 rfl rfl).symm)).symm)
            go_wp2_with fail
            go_roundg jq
            case measure => omega
            case rel => exact ⟨f, st2, s2, C2, X, by omega, by omega, by omega, HTP2, ⟨by have := HQ.out; have := HQ2.out; have := HN6.out; omega⟩, HXO, HS2, HNX⟩
        · have HTP2 := Aside0.mk (show Tgt st s X0 st1 s1 (s1, some R1) by
            cases st1 with
            | true => exact HTP.out.stay
            | false => exact HTP.out.on (passes_stop (fun h => hc ⟨h, rfl⟩)).symm)
          obtain ⟨A6, c6, rfl⟩ := Kd.R_slice HU.out
          have HRO2 := Aside0.mk HRO.out.2
          by_cases hl : 1 < R1.length
          · have hst : st1 = true := by
              cases st1 with
              | true => rfl
              | false => exact absurd ⟨hl, rfl⟩ hc
            subst hst
            clear hc
            go_wp2_with fail
            go_meet
            exact ⟨true, s1, C1, R1, HTP2, HRO2, HS, HU⟩
          · have hcc : ¬ (R1.length : Int) > 1 := by omega
            clear hc
            go_wp2_with fail
            go_meet
            exact ⟨st1, s1, C1, R1, HTP2, HRO2, HS, HU⟩
    case rest =>
      clear HS HU HTP0
      obtain ⟨st1, s1, C1, R1, HTP, HRO, HS, HU⟩ := hcut
      have HEND := Aside0.mk (sort_end HRU.out (by rw [HX0.out]; exact HTP.out))
      cases R1 with
      | nil =>
        obtain ⟨A6, c6, rfl⟩ := Kd.R_slice HU.out
        have hwz : w0.heap.size ≤ wc.heap.size := HS.out.mv.size
        have HE := Aside0.mk (show Kd.R (Kd.int .i64) 2 (wc.alloc (.cells #[] 2)) w0.heap.size (fun k => ¬ C1 k) (.slice (some ⟨wc.heap.size, 0, none⟩) 0 0) [] from
          Kd.R_of_own (World.ownsRow_lit (base := w0.heap.size) (e := 2) (size := 1) wc #[] 0 hwz (by decide) rfl) (fun k hk => by
            have e2 : wc.heap.size = k := by simpa [Value.ownBlock] using hk
            exact HS.out.new (by omega)))
        have HS1 := Aside0.mk (HS.out.alloc (HT.out.asker st1) (.cells #[] 2))
        clear HTP HRO
        go_wp2
        go_ret
        exact ⟨_, [], st1, s1, C1, rfl, HS1.out.inv, HS1.out.mv, HE.out, HEND.out⟩
      | cons L R2 =>
        have hLok := HRO.out L List.mem_cons_self
        obtain ⟨g6, c6, rfl, hg6, hl6, _⟩ := Kd.R_form HU.out (by simp)
        have HUU := Kd.R_mono (Kd.R_bound HU.out) (ok' := fun k => ¬ C1 k ∧ k < wc.heap.size) (fun k hk => ⟨hk.1, hk.2.2.1⟩)
        obtain ⟨ga, na, ca, hcell, hrow⟩ := run_at HUU (k := 0) (L := L) rfl hLok.1
        have HRES := Aside0.mk (show Kd.R (Kd.int .i64) 2 wc w0.heap.size (fun q => ¬ C1 q) (.slice (some ⟨ga, 0, none⟩) na ca) L from Kd.R_of_own (by have h := hrow.own; rw [← hrow.len] at h ⊢; exact h) (fun q hq => by
          have : ga = q := by simpa [Value.ownBlock] using hq
          rw [← this]; exact hrow.off))
        clear hrow HUU hLok HTP HRO
        go_wp2_with fail
        go_ret
        exact ⟨_, L, st1, s1, C1, rfl, HS.out.inv, HS.out.mv, HRES.out, HEND.out⟩

end Go.Proofs.Ytdibbgldclgokaa.PS
