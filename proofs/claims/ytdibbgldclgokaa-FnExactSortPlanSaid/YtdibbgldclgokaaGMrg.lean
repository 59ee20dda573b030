/- merge of the reference's sort. No condition beyond those of the theorems. -/
import Derived.Test.YtdibbgldclgokaaGTell
import Derived.Test.YtdibbgldclgokaaGSort
namespace Go.Proofs.Ytdibbgldclgokaa.PS
open Go.RowKit Go.Proofs.YtdibbgldclgokaaW.PrintWords Go.Proofs.YtdibbgldclgokaaW.PrintLast Go.Proofs.YtdibbgldclgokaaW.PrintMore Go.Proofs.Ytdibbgldclgokaa.SortM
set_option linter.unusedVariables false
set_option linter.unusedSimpArgs false

/-- What a part of the sort still comes to (Y), by what it should come to (X), begun with st and s: once stopped it asks nothing more. -/
def Tgt {α : Type} (st : Bool) (s : Asked) (X : Asked × Option α) (st' : Bool) (s' : Asked) (Y : Asked × Option α) : Prop :=
  (st = true → st' = true ∧ s' = s) ∧ (st = false → st' = false → Y = X) ∧ (st = false → st' = true → X = (s', none))
theorem Tgt.go {α : Type} {st : Bool} {s s' : Asked} {X Y : Asked × Option α} (h : Tgt st s X false s' Y) : st = false ∧ Y = X := by
  cases st with
  | true => exact absurd (h.1 rfl).1 (by simp)
  | false => exact ⟨rfl, h.2.1 rfl rfl⟩
theorem Tgt.on {α : Type} {st : Bool} {s s' s2 : Asked} {X Y Y2 : Asked × Option α} (h : Tgt st s X false s' Y) (e : Y2 = Y) : Tgt st s X false s2 Y2 := by
  obtain ⟨h1, h2⟩ := h.go
  exact ⟨fun h => (by rw [h1] at h; cases h), fun _ _ => e.trans h2, fun _ h => (by cases h)⟩
theorem Tgt.halt {α : Type} {st : Bool} {s s' s2 : Asked} {X Y Y2 : Asked × Option α} (h : Tgt st s X false s' Y) (e : Y = (s2, none)) : Tgt st s X true s2 Y2 := by
  obtain ⟨h1, h2⟩ := h.go
  exact ⟨fun h => (by rw [h1] at h; cases h), fun _ h => (by cases h), fun _ _ => h2.symm.trans e⟩
theorem Tgt.stay {α : Type} {st : Bool} {s s' : Asked} {X Y Y2 : Asked × Option α} (h : Tgt st s X true s' Y) : Tgt st s X true s' Y2 := ⟨h.1, fun _ h => (by cases h), h.2.2⟩
theorem Tgt.mk0 {α : Type} (st : Bool) (s : Asked) (X : Asked × Option α) (h : st = true → X = (s, none) ∨ True) : Tgt st s X st s X := ⟨fun h => ⟨h, rfl⟩, fun _ _ => rfl, fun h h2 => (by rw [h] at h2; cases h2)⟩

section
variable {O : Oracle} {I I' : Asked → (Nat → Prop) → World → Prop} {C0 C C' : Nat → Prop} {w0 w w' : World} {s s' : Asked} {h0 : Nat} {u nx out : Value} {R X : List (List Int)} {ga na ca gb nb cb : Nat} {A B zs : List Int}
theorem Mg.told (h : Mg I C0 w0 h0 u R nx X ga na ca A gb nb cb B out zs s C w) (hI : I' s' C' w') (hlt : ∀ k, C' k → k < w'.heap.size) (hm : Moved C C' w w') : Mg I' C0 w0 h0 u R nx X ga na ca A gb nb cb B out zs s' C' w' :=
  ⟨⟨hI, h.st.mv.trans hm, hlt⟩, row_moved h.rows hm, h.a.moved hm, h.b.moved hm, row_moved h.next hm, (ow_moved h.own h.off hm).1, (ow_moved h.own h.off hm).2⟩
/-- A new row of none. -/
theorem Mg.start {K : FuncId} {caps : Array Value} {n : Int} (hA : Asker O K caps n w0.heap.size I) (hs : St I C0 w0 s C w) (hr : Kd.R (Kd.slice 2 (Kd.int .i64)) 24 w w0.heap.size (fun k => ¬ C k ∧ k < h0) u R) (ha : RowAt w w0.heap.size h0 C ga na ca A) (hb : RowAt w w0.heap.size h0 C gb nb cb B)
    (hn : Kd.R (Kd.slice 2 (Kd.int .i64)) 24 w w0.heap.size (fun k => ¬ C k ∧ h0 ≤ k) nx X) (hh : h0 ≤ w.heap.size) : Mg I C0 w0 h0 u R nx X ga na ca A gb nb cb B (.slice (some ⟨w.heap.size, 0, none⟩) 0 0) [] s C (w.alloc (.cells #[] 2)) := by
  refine ⟨hs.alloc hA _, Kd.R_below hr (below_alloc (Below.refl _ _) _), ha.grown (row := none) (World.grownBy_alloc _ _ _) (by simp), hb.grown (row := none) (World.grownBy_alloc _ _ _) (by simp), ?_, ?_, fun k hk hc => ?_⟩
  · refine Kd.R_mono (Kd.R_below (Kd.R_bound hn) (below_alloc (Below.refl _ _) _)) (fun k hk => ⟨hk.1.1, hk.1.2, fun e => ?_⟩)
    have e2 : k = w.heap.size := by simpa [Value.ownBlock] using e
    have := hk.2.2.1
    omega
  · exact World.ownsRow_lit (base := h0) (e := 2) (size := 1) w #[] 0 hh (by decide) rfl
  · have e2 : w.heap.size = k := by simpa [Value.ownBlock] using hk
    have := hs.lt k hc
    omega
end

set_option maxHeartbeats 4000000 in
theorem merge_calls {O : Oracle} {g N h0 na ca nb cb ga gb : Nat} {I : Bool → Asked → (Nat → Prop) → World → Prop} {C0 C : Nat → Prop} {w0 w : World} {st : Bool} {s : Asked} {u nx : Value} {R X : List (List Int)} {A B : List Int}
    (hT : Teller O g (N : Int) w0.heap.size I) (hN : na + nb ≤ 2000) (h00 : w0.heap.size ≤ h0) (hh : h0 ≤ w.heap.size) (hq : s.length + (na + nb) ≤ 10000000) (hna : na ≤ ca) (hnb : nb ≤ cb) (hAr : ∀ x ∈ A, 0 ≤ x ∧ x < (N : Int)) (hBr : ∀ x ∈ B, 0 ≤ x ∧ x < (N : Int))
    (hs : St (I st) C0 w0 s C w) (hr : Kd.R (Kd.slice 2 (Kd.int .i64)) 24 w w0.heap.size (fun k => ¬ C k ∧ k < h0) u R) (ha : RowAt w w0.heap.size h0 C ga na ca A) (hb : RowAt w w0.heap.size h0 C gb nb cb B) (hn : Kd.R (Kd.slice 2 (Kd.int .i64)) 24 w w0.heap.size (fun k => ¬ C k ∧ h0 ≤ k) nx X) :
    Calls Try.prog 35 #[.pointer (some ⟨g, 0, none⟩), .slice (some ⟨ga, 0, none⟩) na ca, .slice (some ⟨gb, 0, none⟩) nb cb] w fun e w' => ∃ v Z st' s' C', e = .returned v ∧ h0 ≤ w'.heap.size ∧ Mg (I st') C0 w0 h0 u R nx X ga na ca A gb nb cb B v Z s' C' w' ∧ Z.length = na + nb ∧ (∀ z ∈ Z, 0 ≤ z ∧ z < (N : Int)) ∧ s'.length ≤ s.length + (na + nb) ∧
      Tgt st s (merge O (A.length + B.length) s A B []) st' s' (s', some Z) := by
  obtain ⟨i0, hi0, hz0, hz1, hz2⟩ := info_parts info2
  have HT := Aside0.mk hT
  have HLA := Aside0.mk ha.len
  have HLB := Aside0.mk hb.len
  have HAL := Aside0.mk (show True ∧ ∀ x ∈ A, 0 ≤ x ∧ x < (N : Int) from ⟨trivial, hAr⟩)
  have HBL := Aside0.mk (show True ∧ ∀ x ∈ B, 0 ≤ x ∧ x < (N : Int) from ⟨trivial, hBr⟩)
  have HMG1 := Aside0.mk (Mg.start (hT.asker st) hs hr ha hb hn hh)
  have hhw1 : h0 ≤ (w.alloc (.cells #[] 2)).heap.size := by simp; omega
  have HTG1 := Aside0.mk (Tgt.mk0 st s (merge O (A.length + B.length) s A B []) (fun _ => .inr trivial))
  clear hs hr ha hb hn hAr hBr hT
  obtain ⟨XX, hXX⟩ : ∃ Y, merge O (A.length + B.length) s A B [] = Y := ⟨_, rfl⟩
  have HXX := Aside0.mk hXX
  rw [hXX] at HTG1 ⊢
  clear hXX
  go_enter Try.func35, Try.ntmps35
  go_upto_block 0 with fail
  go_cut [1, 2, 7] (fun s21 s22 s23 wx => ∃ (ad1 ad2 : Addr) (ma ka mb kb pa pb : Nat) (zs : List Int) (st3 : Bool) (s3 : Asked) (C3 : Nat → Prop), s21 = .slice (some ad1) ma ka ∧ s22 = .slice (some ad2) mb kb ∧ pa + ma = na ∧ pb + mb = nb ∧ zs.length = pa + pb ∧ h0 ≤ wx.heap.size ∧ Aside0 (0 < ma → ad1 = ⟨ga, pa, none⟩) ∧ Aside0 (0 < mb → ad2 = ⟨gb, pb, none⟩) ∧
    Aside0 (Tgt st s XX st3 s3 (s3, some (zs ++ A.drop pa ++ B.drop pb))) ∧ Aside0 (s3.length ≤ s.length + (na + nb)) ∧ Aside0 (∀ x ∈ zs, 0 ≤ x ∧ x < (N : Int)) ∧ Aside0 (Mg (I st3) C0 w0 h0 u R nx X ga na ca A gb nb cb B s23 zs s3 C3 wx))
  case first =>
    go_wp2_with fail
    go_loopg [1, 2, 7] (na + nb) (fun kq v21 v22 v23 w' => ∃ (ad1 ad2 : Addr) (ma ka mb kb pa pb f2 : Nat) (zs : List Int) (st3 : Bool) (s3 : Asked) (C3 : Nat → Prop), v21 = .slice (some ad1) ma ka ∧ v22 = .slice (some ad2) mb kb ∧ pa + ma = na ∧ pb + mb = nb ∧ ma ≤ ka ∧ mb ≤ kb ∧ zs.length = pa + pb ∧ ma + mb ≤ kq ∧ ma + mb ≤ f2 ∧ h0 ≤ w'.heap.size ∧
      Aside0 (0 < ma → ad1 = ⟨ga, pa, none⟩) ∧ Aside0 (0 < mb → ad2 = ⟨gb, pb, none⟩) ∧ Aside0 (Tgt st s XX st3 s3 (merge O f2 s3 (A.drop pa) (B.drop pb) zs)) ∧ Aside0 (s3.length + ma + mb ≤ s.length + (na + nb)) ∧ Aside0 (∀ x ∈ zs, 0 ≤ x ∧ x < (N : Int)) ∧ Aside0 (Mg (I st3) C0 w0 h0 u R nx X ga na ca A gb nb cb B v23 zs s3 C3 w'))
    case atStart => exact ⟨⟨ga, 0, none⟩, ⟨gb, 0, none⟩, na, ca, nb, cb, 0, 0, na + nb, [], st, s, C, by first | rfl | simp, by first | rfl | simp, by omega, by omega, hna, hnb, rfl, by omega, by omega, hhw1, ⟨fun _ => rfl⟩, ⟨fun _ => rfl⟩, ⟨by rw [List.drop_zero, List.drop_zero, ← HLA.out, ← HLB.out, HXX.out]; exact HTG1.out⟩, ⟨by omega⟩, ⟨fun x hx => by cases hx⟩, HMG1⟩
    case round =>
      clear HMG1 hhw1 HTG1
      obtain ⟨ad1, ad2, ma, ka, mb, kb, pa, pb, f2, zs, st3, s3, C3, rfl, rfl, hpa, hpb, hka, hkb, hzl, hkq, hf2, hhw, HD1, HD2, HTG, HQ3, HZR, HMG⟩ := hrel
      have hstop := HT.out.stop st3 s3 C3 wr HMG.out.st.inv
      by_cases hab : (0 < ma ∧ 0 < mb) ∧ st3 = false
      · obtain ⟨hab, rfl⟩ := hab
        obtain ⟨hab1, hab2⟩ := hab
        obtain rfl := HD1.out hab1
        obtain rfl := HD2.out hab2
        obtain ⟨ma, rfl⟩ : ∃ q, ma = q + 1 := ⟨ma - 1, by omega⟩
        obtain ⟨mb, rfl⟩ : ∃ q, mb = q + 1 := ⟨mb - 1, by omega⟩
        obtain ⟨f2, rfl⟩ : ∃ q, f2 = q + 1 := ⟨f2 - 1, by omega⟩
        obtain ⟨jq2, rfl⟩ : ∃ q, gk = q + 1 := ⟨gk - 1, by omega⟩
        have hpA : pa < A.length := by rw [HLA.out]; omega
        have hpB : pb < B.length := by rw [HLB.out]; omega
        obtain ⟨x, hx⟩ : ∃ x, A[pa] = x := ⟨_, rfl⟩
        obtain ⟨y, hy⟩ : ∃ y, B[pb] = y := ⟨_, rfl⟩
        have hxr := HAL.out.2 _ (List.getElem_mem hpA)
        have hyr := HBL.out.2 _ (List.getElem_mem hpB)
        have hdA := List.drop_eq_getElem_cons hpA
        have hdB := List.drop_eq_getElem_cons hpB
        have hxo := List.getElem?_eq_getElem hpA
        have hyo := List.getElem?_eq_getElem hpB
        rw [hx] at hxr hdA hxo
        rw [hy] at hyr hdB hyo
        have hdA0 := Aside0.mk hdA
        have hdB0 := Aside0.mk hdB
        rw [hdA, hdB] at HTG
        have HXO := Aside0.mk hxo
        have HYO := Aside0.mk hyo
        have HXR := Aside0.mk hxr
        have HYR := Aside0.mk hyr
        have hxc := HMG.out.a.cell hxo
        have hyc := HMG.out.b.cell hyo
        have hle : s3.length ≤ 10000000 := by have := HQ3.out; omega
        have CALL := Aside0.mk (HT.out.ask s3 C3 wr.drew y x (show I false s3 C3 wr.drew from (HMG.out.drewN (HT.out.asker false) 1).st.inv) hyr.1 hyr.2 hxr.1 hxr.2 hle)
        clear hx hy hxr hyr hdA hdB hxo hyo hle hpA hpB hab1 hab2
        go_upto_region 3 with fail
        go_cut [31] (fun s31 wx => ∃ C4, s31 = .bool ((O s3.length y x).getD false) ∧ h0 ≤ wx.heap.size ∧ Aside0 (Mg (I (O s3.length y x).isNone) C0 w0 h0 u R nx X ga na ca A gb nb cb B u7 zs (s3 ++ [(y, x)]) C4 wx))
        case first =>
          have HH := Aside0.mk hhw
          clear hhw
          go_region_with (with_reducible (refine Calls.mono CALL.out ?_; rintro e w' ⟨rfl, C4, hI4, hm4⟩))
          all_goals go_wp2
          all_goals go_meet
          all_goals exact ⟨C4, rfl, Nat.le_trans HH.out hm4.size, ⟨(HMG.out.drewN (HT.out.asker false) 1).told hI4 (HT.out.lt _ _ _ _ hI4) hm4⟩⟩
        case rest =>
          clear HMG hhw hxc hyc CALL hstop
          obtain ⟨C4, rfl, hhw, HMG2⟩ := hcut
          have HZL := Aside0.mk (show zs.length = pa + pb ∧ pa + pb ≤ 2000 from ⟨hzl, by omega⟩)
          clear hzl
          have HT4 := Aside0.mk (show ((O s3.length y x).getD false = true → Tgt st s XX (O s3.length y x).isNone (s3 ++ [(y, x)]) (merge O f2 (s3 ++ [(y, x)]) (x :: A.drop (pa + 1)) (B.drop (pb + 1)) (zs ++ [y]))) ∧ ((O s3.length y x).getD false = false → Tgt st s XX (O s3.length y x).isNone (s3 ++ [(y, x)]) (merge O f2 (s3 ++ [(y, x)]) (A.drop (pa + 1)) (y :: B.drop (pb + 1)) (zs ++ [x]))) by
            cases hr : O s3.length y x with
            | none => exact ⟨fun h => by simp at h, fun _ => HTG.out.halt (merge_none hr)⟩
            | some b =>
              have e := merge_on (f := f2) (a := A.drop (pa + 1)) (b := B.drop (pb + 1)) (out := zs) b hr
              cases b with
              | true => exact ⟨fun _ => HTG.out.on (by rw [e, if_pos rfl]), fun h => by simp at h⟩
              | false => exact ⟨fun h => by simp at h, fun _ => HTG.out.on (by rw [e, if_neg (by simp)])⟩)
          obtain ⟨st4, hst4⟩ : ∃ q, (O s3.length y x).isNone = q := ⟨_, rfl⟩
          obtain ⟨b4, hb4⟩ : ∃ q, (O s3.length y x).getD false = q := ⟨_, rfl⟩
          rw [hst4] at HMG2
          rw [hst4, hb4] at HT4
          rw [hb4]
          clear hst4 hb4 HTG
          cases b4 with
          | true =>
            have HO3 := Aside0.mk (HMG2.out.alloc (HT.out.asker _) (.cells #[.int .i64 y] 2)).own
            have hwz : h0 ≤ (wc.alloc (.cells #[.int .i64 y] 2)).heap.size := by simp; omega
            have hcc2 := HMG2.out.b.cell HYO.out
            have HZR2 := Aside0.mk (show ∀ q ∈ zs ++ [y], 0 ≤ q ∧ q < (N : Int) from fun q hq => by
              rcases List.mem_append.1 hq with hq | hq
              · exact HZR.out q hq
              · rw [List.mem_singleton.1 hq]; exact HYR.out)
            go_wp2_with (first | (at_builtin; refine wpList_append_own_at _ rfl _ _ 24 rfl h0 2 i0 (.int .i64 0) 1 8 Try.underlying24 hi0 hz0 hz1 hz2 rfl (by decide) u7 zs.length (zs.map (Value.int .i64)) rfl HO3.out ⟨wc.heap.size, 0, none⟩ 1 1 [.int .i64 y] rfl rfl (cell_one_new _ _ _) (by intro u hu; simp at hu; subst hu; rfl) (by have := HZL.out; unfold maxLen; omega) (by have := HZL.out; omega) hwz ?_; intro v' w5 hown hgrow hnil hat) | fail)
            · have HMG5 := Aside0.mk ((HMG2.out.alloc (HT.out.asker _) (.cells #[.int .i64 y] 2)).pushed (HT.out.asker _) h00 [y] v' hown hgrow (hat.imp id (fun h => ⟨_, h, Nat.le_refl _⟩)) hwz)
              have hhw2 : h0 ≤ w5.heap.size := Nat.le_trans hwz hgrow.size
              clear hown hgrow hnil hat HMG2 HO3 hwz hcc2
              go_roundg jq2
              case measure => omega
              case rel => exact ⟨⟨ga, pa, none⟩, ⟨gb, pb, none⟩, ma + 1, ka, mb, 0, pa, pb + 1, f2, zs ++ [y], _, _, C4, rfl, rfl, by omega, by omega, by omega, by omega, by rw [List.length_append, List.length_singleton, HZL.out.1]; omega, by omega, by omega, hhw2, ⟨fun _ => rfl⟩, ⟨fun hm => by omega⟩, ⟨by rw [hdA0.out]; exact HT4.out.1 trivial⟩, ⟨by have := HQ3.out; rw [List.length_append, List.length_singleton]; omega⟩, HZR2, HMG5⟩
            · have HMG5 := Aside0.mk ((HMG2.out.alloc (HT.out.asker _) (.cells #[.int .i64 y] 2)).pushed (HT.out.asker _) h00 [y] v' hown hgrow (hat.imp id (fun h => ⟨_, h, Nat.le_refl _⟩)) hwz)
              have hhw2 : h0 ≤ w5.heap.size := Nat.le_trans hwz hgrow.size
              clear hown hgrow hnil hat HMG2 HO3 hwz hcc2
              go_roundg jq2
              case measure => omega
              case rel => exact ⟨⟨ga, pa, none⟩, ⟨gb, pb + 1, none⟩, ma + 1, ka, mb, kb - 1, pa, pb + 1, f2, zs ++ [y], _, _, C4, rfl, rfl, by omega, by omega, by omega, by omega, by rw [List.length_append, List.length_singleton, HZL.out.1]; omega, by omega, by omega, hhw2, ⟨fun _ => rfl⟩, ⟨fun _ => rfl⟩, ⟨by rw [hdA0.out]; exact HT4.out.1 trivial⟩, ⟨by have := HQ3.out; rw [List.length_append, List.length_singleton]; omega⟩, HZR2, HMG5⟩
          | false =>
            have HO3 := Aside0.mk (HMG2.out.alloc (HT.out.asker _) (.cells #[.int .i64 x] 2)).own
            have hwz : h0 ≤ (wc.alloc (.cells #[.int .i64 x] 2)).heap.size := by simp; omega
            have hcc2 := HMG2.out.a.cell HXO.out
            have HZR2 := Aside0.mk (show ∀ q ∈ zs ++ [x], 0 ≤ q ∧ q < (N : Int) from fun q hq => by
              rcases List.mem_append.1 hq with hq | hq
              · exact HZR.out q hq
              · rw [List.mem_singleton.1 hq]; exact HXR.out)
            go_wp2_with (first | (at_builtin; refine wpList_append_own_at _ rfl _ _ 24 rfl h0 2 i0 (.int .i64 0) 1 8 Try.underlying24 hi0 hz0 hz1 hz2 rfl (by decide) u7 zs.length (zs.map (Value.int .i64)) rfl HO3.out ⟨wc.heap.size, 0, none⟩ 1 1 [.int .i64 x] rfl rfl (cell_one_new _ _ _) (by intro u hu; simp at hu; subst hu; rfl) (by have := HZL.out; unfold maxLen; omega) (by have := HZL.out; omega) hwz ?_; intro v' w5 hown hgrow hnil hat) | fail)
            · have HMG5 := Aside0.mk ((HMG2.out.alloc (HT.out.asker _) (.cells #[.int .i64 x] 2)).pushed (HT.out.asker _) h00 [x] v' hown hgrow (hat.imp id (fun h => ⟨_, h, Nat.le_refl _⟩)) hwz)
              have hhw2 : h0 ≤ w5.heap.size := Nat.le_trans hwz hgrow.size
              clear hown hgrow hnil hat HMG2 HO3 hwz hcc2
              go_roundg jq2
              case measure => omega
              case rel => exact ⟨⟨ga, pa, none⟩, ⟨gb, pb, none⟩, ma, 0, mb + 1, kb, pa + 1, pb, f2, zs ++ [x], _, _, C4, rfl, rfl, by omega, by omega, by omega, by omega, by rw [List.length_append, List.length_singleton, HZL.out.1]; omega, by omega, by omega, hhw2, ⟨fun hm => by omega⟩, ⟨fun _ => rfl⟩, ⟨by rw [hdB0.out]; exact HT4.out.2 trivial⟩, ⟨by have := HQ3.out; rw [List.length_append, List.length_singleton]; omega⟩, HZR2, HMG5⟩
            · have HMG5 := Aside0.mk ((HMG2.out.alloc (HT.out.asker _) (.cells #[.int .i64 x] 2)).pushed (HT.out.asker _) h00 [x] v' hown hgrow (hat.imp id (fun h => ⟨_, h, Nat.le_refl _⟩)) hwz)
              have hhw2 : h0 ≤ w5.heap.size := Nat.le_trans hwz hgrow.size
              clear hown hgrow hnil hat HMG2 HO3 hwz hcc2
              go_roundg jq2
              case measure => omega
              case rel => exact ⟨⟨ga, pa + 1, none⟩, ⟨gb, pb, none⟩, ma, ka - 1, mb + 1, kb, pa + 1, pb, f2, zs ++ [x], _, _, C4, rfl, rfl, by omega, by omega, by omega, by omega, by rw [List.length_append, List.length_singleton, HZL.out.1]; omega, by omega, by omega, hhw2, ⟨fun _ => rfl⟩, ⟨fun _ => rfl⟩, ⟨by rw [hdB0.out]; exact HT4.out.2 trivial⟩, ⟨by have := HQ3.out; rw [List.length_append, List.length_singleton]; omega⟩, HZR2, HMG5⟩
      · have HTG2 := Aside0.mk (show Tgt st s XX st3 s3 (s3, some (zs ++ A.drop pa ++ B.drop pb)) by
          cases st3 with
          | true => exact HTG.out.stay
          | false =>
            refine HTG.out.on (merge_stop ?_).symm
            by_cases hm : ma = 0
            · exact .inl (List.drop_eq_nil_of_le (by rw [HLA.out]; omega))
            · exact .inr (List.drop_eq_nil_of_le (by rw [HLB.out]; have : ¬ (0 < ma ∧ 0 < mb) := fun h => hab ⟨h, rfl⟩; omega)))
        have HQ4 := Aside0.mk (show s3.length ≤ s.length + (na + nb) by have := HQ3.out; omega)
        clear HTG
        by_cases hm : ma = 0
        · subst hm
          clear hab
          go_wp2_with fail
          go_meet
          exact ⟨ad1, ad2, 0, ka, mb, kb, pa, pb, zs, st3, s3, C3, rfl, rfl, hpa, hpb, hzl, hhw, HD1, HD2, HTG2, HQ4, HZR, HMG⟩
        · by_cases hm2 : mb = 0
          · subst hm2
            obtain ⟨ma, rfl⟩ : ∃ q, ma = q + 1 := ⟨ma - 1, by omega⟩
            clear hab hm
            go_wp2_with fail
            go_meet
            exact ⟨ad1, ad2, ma + 1, ka, 0, kb, pa, pb, zs, st3, s3, C3, rfl, rfl, hpa, hpb, hzl, hhw, HD1, HD2, HTG2, HQ4, HZR, HMG⟩
          · obtain ⟨ma, rfl⟩ : ∃ q, ma = q + 1 := ⟨ma - 1, by omega⟩
            obtain ⟨mb, rfl⟩ : ∃ q, mb = q + 1 := ⟨mb - 1, by omega⟩
            have hst : st3 = true := by
              cases st3 with
              | true => rfl
              | false => exact absurd ⟨⟨by omega, by omega⟩, rfl⟩ hab
            subst hst
            clear hab hm hm2
            go_wp2_with fail
            go_meet
            exact ⟨ad1, ad2, ma + 1, ka, mb + 1, kb, pa, pb, zs, true, s3, C3, rfl, rfl, hpa, hpb, hzl, hhw, HD1, HD2, HTG2, HQ4, HZR, HMG⟩
  case rest =>
    clear HMG1 hhw1 HTG1
    obtain ⟨ad1, ad2, ma, ka, mb, kb, pa, pb, zs, st3, s3, C3, rfl, rfl, hpa, hpb, hzl, hhw, HD1, HD2, HTG, HQ3, HZR, HMG⟩ := hcut
    have hn1 := Aside0.mk (rest_news HMG.out.a hpa HD1.out)
    obtain ⟨A1, hA1⟩ : ∃ L, A.drop pa = L := ⟨_, rfl⟩
    obtain ⟨B1, hB1⟩ : ∃ L, B.drop pb = L := ⟨_, rfl⟩
    have HA1 := Aside0.mk (show (∀ x ∈ A1, 0 ≤ x ∧ x < (N : Int)) ∧ A1.length = ma from ⟨fun x hx => HAL.out.2 x (List.mem_of_mem_drop (by rw [hA1]; exact hx)), by rw [← hA1, List.length_drop, HLA.out]; omega⟩)
    have HB1 := Aside0.mk (show (∀ x ∈ B1, 0 ≤ x ∧ x < (N : Int)) ∧ B1.length = mb from ⟨fun x hx => HBL.out.2 x (List.mem_of_mem_drop (by rw [hB1]; exact hx)), by rw [← hB1, List.length_drop, HLB.out]; omega⟩)
    have HB2 := Aside0.mk hB1
    rw [hA1] at hn1
    rw [hA1, hB1] at HTG
    clear hA1 hB1
    have HZL := Aside0.mk (show zs.length = pa + pb ∧ pa + pb ≤ 2000 ∧ ma ≤ 2000 ∧ mb ≤ 2000 ∧ zs.length + ma + mb = na + nb from ⟨hzl, by omega, by omega, by omega, by omega⟩)
    clear hzl
    have hpb2 := Aside0.mk hpb
    go_wp2_with (first
      | (at_builtin; refine wpList_append_own_at _ rfl _ _ 24 rfl h0 2 i0 (.int .i64 0) 1 8 Try.underlying24 hi0 hz0 hz1 hz2 rfl (by decide) u7 zs.length (zs.map (Value.int .i64)) rfl HMG.out.own ad1 ma ka (A1.map (Value.int .i64)) rfl hn1.out.1 hn1.out.2.1 hn1.out.2.2 (by have := HZL.out; unfold maxLen; omega) (by have := HZL.out; omega) hhw ?_; intro v1 w5 hown hgrow hnil hat;
          have HMG5 := Aside0.mk (HMG.out.pushed (HT.out.asker _) h00 A1 v1 (by rw [HA1.out.2]; exact hown) hgrow (hat.imp id (fun h => ⟨_, h, Nat.le_refl _⟩)) hhw);
          have hhw5 : h0 ≤ w5.heap.size := Nat.le_trans hhw hgrow.size;
          have HZ5 := Aside0.mk (show (zs ++ A1).length = zs.length + A1.length from List.length_append);
          have hn5 := Aside0.mk (rest_news HMG5.out.b hpb2.out HD2.out);
          rw [HB2.out] at hn5;
          obtain ⟨zs5, hzs5⟩ : ∃ z, zs ++ A1 = z := ⟨_, rfl⟩;
          rw [hzs5] at HMG5 HZ5;
          have HZA := Aside0.mk hzs5;
          clear hzs5 hown hgrow hnil hat HMG hn1)
      | (at_builtin; refine wpList_append_own_at _ rfl _ _ 24 rfl h0 2 i0 (.int .i64 0) 1 8 Try.underlying24 hi0 hz0 hz1 hz2 rfl (by decide) v1 zs5.length (zs5.map (Value.int .i64)) rfl HMG5.out.own ad2 mb kb (B1.map (Value.int .i64)) rfl hn5.out.1 hn5.out.2.1 hn5.out.2.2 (by have h1 := HZL.out; have h2 := HZ5.out; have h3 := HA1.out.2; unfold maxLen; omega) (by have h1 := HZL.out; have h2 := HZ5.out; have h3 := HA1.out.2; omega) hhw5 ?_; intro v2 w6 hown hgrow hnil hat;
          have HMG6 := Aside0.mk (HMG5.out.pushed (HT.out.asker _) h00 B1 v2 (by rw [HB1.out.2]; exact hown) hgrow (hat.imp id (fun h => ⟨_, h, Nat.le_refl _⟩)) hhw5);
          have hhw6 : h0 ≤ w6.heap.size := Nat.le_trans hhw5 hgrow.size;
          have HZ6 := Aside0.mk (show (zs5 ++ B1).length = zs5.length + B1.length from List.length_append);
          obtain ⟨zs6, hzs6⟩ : ∃ z, zs5 ++ B1 = z := ⟨_, rfl⟩;
          rw [hzs6] at HMG6 HZ6;
          have HZB := Aside0.mk hzs6;
          clear hzs6 hown hgrow hnil hat HMG5 hn5)
      | fail)
    have HEND := Aside0.mk (show zs6.length = na + nb ∧ (∀ z ∈ zs6, 0 ≤ z ∧ z < (N : Int)) ∧ Tgt st s XX st3 s3 (s3, some zs6) by
      have h1 := HZL.out
      have h2 := HZ5.out
      have h3 := HA1.out.2
      have h4 := HZ6.out
      have h5 := HB1.out.2
      refine ⟨by omega, fun x hx => ?_, by rw [← HZB.out, ← HZA.out]; exact HTG.out⟩
      rw [← HZB.out, ← HZA.out] at hx
      rcases List.mem_append.1 hx with hx | hx
      · rcases List.mem_append.1 hx with hx | hx
        · exact HZR.out x hx
        · exact HA1.out.1 x hx
      · exact HB1.out.1 x hx)
    go_wp2
    go_ret
    exact ⟨_, zs6, st3, s3, C3, rfl, hhw6, HMG6.out, HEND.out.1, HEND.out.2.1, HQ3.out, HEND.out.2.2⟩

end Go.Proofs.Ytdibbgldclgokaa.PS
