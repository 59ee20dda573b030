/- run of the reference's sort. No condition beyond those of the theorems. -/
import Derived.Test.YtdibbgldclgokaaGMrg
namespace Go.Proofs.Ytdibbgldclgokaa.PS
open Go.RowKit Go.Proofs.YtdibbgldclgokaaW.PrintWords Go.Proofs.YtdibbgldclgokaaW.PrintLast Go.Proofs.YtdibbgldclgokaaW.PrintMore Go.Proofs.Ytdibbgldclgokaa.SortM
set_option linter.unusedVariables false
set_option linter.unusedSimpArgs false

/-- A row of the run's own beside the state. -/
structure Rn (I : Asked → (Nat → Prop) → World → Prop) (C0 : Nat → Prop) (w0 : World) (v : Value) (zs : List Int) (s : Asked) (C : Nat → Prop) (w : World) : Prop where
  own : Ow w w0.heap.size v zs
  off : Off C v
  st : St I C0 w0 s C w
section
variable {O : Oracle} {K : FuncId} {caps : Array Value} {n : Int} {I I' : Asked → (Nat → Prop) → World → Prop} {C0 C C' : Nat → Prop} {w0 w w' : World} {v : Value} {zs : List Int} {s s' : Asked}
theorem Rn.told (h : Rn I C0 w0 v zs s C w) (hI : I' s' C' w') (hlt : ∀ k, C' k → k < w'.heap.size) (hm : Moved C C' w w') : Rn I' C0 w0 v zs s' C' w' :=
  ⟨(ow_moved h.own h.off hm).1, (ow_moved h.own h.off hm).2, ⟨hI, h.st.mv.trans hm, hlt⟩⟩
theorem Rn.push (hA : Asker O K caps n w0.heap.size I) (h : Rn I C0 w0 v zs s C w) (x : Int) (v' : Value) (w5 : World)
    (hown : w5.ownsRow w0.heap.size 2 1 v' (zs.length + 1) (zs.map (Value.int .i64) ++ [.int .i64 x])) (hgrow : (w.alloc (.cells #[.int .i64 x] 2)).grownBy w5 v.ownBlock) (hat : v'.ownBlock = v.ownBlock ∨ v'.ownBlock = some (w.alloc (.cells #[.int .i64 x] 2)).heap.size) : Rn I C0 w0 v' (zs ++ [x]) s C w5 :=
  have k := own_push (u := .slice none 0 0) (R := []) hA h.own h.off h.st (Kd.R_nil _ _ _ _ _) v' w5 hown hgrow hat
  ⟨k.1, k.2.1, k.2.2.1⟩
end

theorem run1_end {O : Oracle} {N i j : Int} {st0 st1 st2 down : Bool} {s0 s2 s3 : Asked} {L : List Int} {j2 : Int} (hc : i + 1 < N) (hO : (O s0.length (i + 1) i = none ∧ st0 = true) ∨ (O s0.length (i + 1) i = some down ∧ st0 = false))
    (T1 : Tgt st0 (s0 ++ [(i + 1, i)]) (ascend O N down N.toNat (s0 ++ [(i + 1, i)]) (i + 2)) st1 s2 (s2, some j)) (T2 : Tgt st1 s2 (fill O N 6 s2 (if down = true then (span i (j - i).toNat).reverse else span i (j - i).toNat) j) st2 s3 (s3, some (L, j2))) :
    run1 O N s0 i = (s3, if st2 = true then none else some (L, j2)) := by
  unfold run1
  rw [if_pos hc]
  rcases hO with ⟨h1, rfl⟩ | ⟨h1, rfl⟩
  · obtain ⟨rfl, rfl⟩ := T1.1 rfl
    obtain ⟨rfl, rfl⟩ := T2.1 rfl
    rw [h1]
    rfl
  · rw [h1]
    dsimp only
    cases st1 with
    | true =>
      obtain ⟨rfl, rfl⟩ := T2.1 rfl
      rw [T1.2.2 rfl rfl]
      rfl
    | false =>
      rw [← T1.2.1 rfl rfl]
      dsimp only
      cases st2 with
      | true => rw [T2.2.2 rfl rfl]; rfl
      | false => rw [← T2.2.1 rfl rfl]; rfl

theorem ascend_on {O : Oracle} {n i : Int} {down : Bool} {f : Nat} {s : Asked} (hi : i < n) (b : Bool) (h : O s.length i (i - 1) = some b) : ascend O n down (f + 1) s i = if b = down then ascend O n down f (s ++ [(i, i - 1)]) (i + 1) else (s ++ [(i, i - 1)], some i) := by
  rw [ascend, if_pos hi, h]
theorem ascend_none {O : Oracle} {n i : Int} {down : Bool} {f : Nat} {s : Asked} (hi : i < n) (h : O s.length i (i - 1) = none) : ascend O n down (f + 1) s i = (s ++ [(i, i - 1)], none) := by
  rw [ascend, if_pos hi, h]
theorem ascend_stop {O : Oracle} {n i : Int} {down : Bool} {f : Nat} {s : Asked} (hi : ¬ i < n) : ascend O n down f s i = (s, some i) := by
  cases f with
  | zero => rfl
  | succ f => rw [ascend, if_neg hi]

theorem ow_take {w : World} {base : Nat} {g n c p : Nat} {xs : List Value} (h : w.ownsRow base 2 1 (.slice (some ⟨g, 0, none⟩) n c) n xs) (hp : p ≤ n) : w.ownsRow base 2 1 (.slice (some ⟨g, 0, none⟩) p c) p (xs.take p) := by
  obtain ⟨h1, h2⟩ := h
  rcases h2 with ⟨h0, _⟩ | ⟨g', cap', cur, hv, hg, hh, hn, hcap, hsz, htake⟩
  · cases h0
  · cases hv
    refine ⟨by rw [List.length_take, h1]; omega, .inr ⟨g, c, cur, rfl, hg, hh, by omega, hcap, hsz, ?_⟩⟩
    rw [← htake, List.take_take]
    congr 1
    omega
theorem own_news {w : World} {base g n c : Nat} {xs : List Value} (h : w.ownsRow base 2 1 (.slice (some ⟨g, 0, none⟩) n c) n xs) : ∀ j u, xs[j]? = some u → w.cell? ((⟨g, 0, none⟩ : Addr).add j) = some u := by
  intro j u hj
  have hlt := (List.getElem?_eq_some_iff.1 hj).1
  have e : (⟨g, 0, none⟩ : Addr).add j = ⟨g, j, none⟩ := by
    unfold Addr.add
    split
    · subst_vars; rfl
    · rw [Nat.zero_add]
  rw [e, h.cellAt j (by have := h.1; omega)]
  exact hj
theorem ints_one (zs : List Int) : ∀ u ∈ zs.map (Value.int .i64), u.oneCell' = true := fun u hu => by
  obtain ⟨x, _, rfl⟩ := List.mem_map.1 hu
  rfl
theorem own_some {w : World} {base n : Nat} {v : Value} {xs : List Value} (h : w.ownsRow base 2 1 v n xs) (hn : v ≠ .slice none 0 0) : ∃ g c, v = .slice (some ⟨g, 0, none⟩) n c ∧ base ≤ g := by
  rcases h.2 with ⟨h0, _⟩ | ⟨g', cap', cur, hv, hg, _⟩
  · exact absurd h0 hn
  · exact ⟨g', cap', hv, hg⟩
theorem place_on' {O : Oracle} {L : List Int} {j : Int} {f lo hi mid : Nat} {s : Asked} (hlt : lo < hi) (hf : hi ≤ lo + f) (hm : (lo + hi) / 2 = mid) {y : Int} (hy : L.getD mid 0 = y) (b : Bool) (hr : O s.length j y = some b) :
    place O L j f s lo hi = if b = true then place O L j (f - 1) (s ++ [(j, y)]) lo mid else place O L j (f - 1) (s ++ [(j, y)]) (mid + 1) hi := by
  rw [place_on hlt hf hm b (by rw [hy]; exact hr), hy]
theorem place_none' {O : Oracle} {L : List Int} {j : Int} {f lo hi mid : Nat} {s : Asked} (hlt : lo < hi) (hf : hi ≤ lo + f) (hm : (lo + hi) / 2 = mid) {y : Int} (hy : L.getD mid 0 = y) (hr : O s.length j y = none) :
    place O L j f s lo hi = (s ++ [(j, y)], none) := by
  rw [place_none hlt hf hm (by rw [hy]; exact hr), hy]

set_option maxRecDepth 100000 in
set_option maxHeartbeats 4000000 in
theorem run_calls {O : Oracle} {g N i : Nat} {I : Bool → Asked → (Nat → Prop) → World → Prop} {C0 : Nat → Prop} {w0 : World} {s0 : Asked} (hN : N ≤ 2000) (hT : Teller O g (N : Int) w0.heap.size I) (hI : I false s0 C0 w0) (hi : i < N) (hq : s0.length ≤ 9000000) :
    Calls Try.prog 34 #[.pointer (some ⟨g, 0, none⟩), .int .i64 (i : Int), .int .i64 (N : Int)] w0 fun e w' => ∃ v L st' s' C' j, e = .returned (.tuple #[v, .int .i64 (j : Nat)]) ∧ Rn (I st') C0 w0 v L s' C' w' ∧ i < j ∧ j ≤ N ∧ L.length = j - i ∧ (∀ x ∈ L, 0 ≤ x ∧ x < (N : Int)) ∧
      run1 O (N : Int) s0 (i : Int) = (s', if st' = true then none else some (L, (j : Int))) := by
  obtain ⟨i0, hi0, hz0, hz1, hz2⟩ := info_parts info2
  have HT := Aside0.mk hT
  have HR1 := Aside0.mk (show Rn (I false) C0 w0 (.slice (some ⟨w0.heap.size, 0, none⟩) 1 1) (span (i : Int) (0 + 1)) s0 C0 (w0.alloc (.cells #[.int .i64 (i : Int)] 2)) from
    ⟨one_own w0 _ (Nat.le_refl _), fun k hk hc => by
      have e2 : w0.heap.size = k := by simpa [Value.ownBlock] using hk
      have := hT.lt _ _ _ _ hI k hc
      omega, (St.mk hI (Moved.refl _ _) (hT.lt _ _ _ _ hI)).alloc (hT.asker false) _⟩)
  clear hT hI
  by_cases hc : i + 1 < N
  · have CALL := Aside0.mk (HT.out.ask s0 C0 (w0.alloc (.cells #[.int .i64 (i : Int)] 2)) ((i : Int) + 1) (i : Int) HR1.out.st.inv (by omega) (by omega) (by omega) (by omega) (by omega))
    go_enter Try.func34, Try.ntmps34
    go_wp2_with fail
    refine Calls.mono CALL.out ?_
    rintro e w1 ⟨rfl, C1, hI1, hm1⟩
    have HR2 := Aside0.mk (HR1.out.told hI1 (HT.out.lt _ _ _ _ hI1) hm1)
    obtain ⟨st0, hst0⟩ : ∃ q, (O s0.length ((i : Int) + 1) (i : Int)).isNone = q := ⟨_, rfl⟩
    obtain ⟨down, hdown⟩ : ∃ q, (O s0.length ((i : Int) + 1) (i : Int)).getD false = q := ⟨_, rfl⟩
    have HO0 := Aside0.mk (show (O s0.length ((i : Int) + 1) (i : Int) = none ∧ st0 = true) ∨ (O s0.length ((i : Int) + 1) (i : Int) = some down ∧ st0 = false) by
      cases hr : O s0.length ((i : Int) + 1) (i : Int) with
      | none => rw [hr] at hst0; exact .inl ⟨rfl, hst0.symm⟩
      | some b => rw [hr] at hst0 hdown; exact .inr ⟨by rw [← hdown]; rfl, hst0.symm⟩)
    rw [hst0] at HR2
    rw [hdown]
    obtain ⟨s1, hs1⟩ : ∃ s, s0 ++ [((i : Int) + 1, (i : Int))] = s := ⟨_, rfl⟩
    have HS1 := Aside0.mk hs1
    rw [hs1] at HR2
    clear hI1 hm1 HR1 CALL hst0 hdown hs1
    have hwz : w0.heap.size ≤ w1.heap.size := HR2.out.st.mv.size
    have hwz2 : w0.heap.size ≤ (w1.alloc (.cells #[.int .i64 ((i : Int) + 1)] 2)).heap.size := by simp; omega
    generalize (Value.slice (some ⟨w0.heap.size, 0, none⟩) 1 1) = v8 at *
    have hls : (span (i : Int) (0 + 1)).length = 1 := span_length _ _
    obtain ⟨z1, hz⟩ : ∃ z, span (i : Int) (0 + 1) = z := ⟨_, rfl⟩
    rw [hz] at HR2 hls
    have HZ1 := Aside0.mk (show z1 ++ [(i : Int) + 1] = span (i : Int) (1 + 1) by rw [← hz]; rfl)
    have HLS := Aside0.mk hls
    have HO3 := Aside0.mk (HR2.out.own.alloc (.cells #[.int .i64 ((i : Int) + 1)] 2))
    clear hls hz
    go_upto_block 0 with (first | (at_builtin; (refine wpList_append_own_at _ rfl _ _ 24 rfl w0.heap.size 2 i0 (.int .i64 0) 1 8 Try.underlying24 hi0 hz0 hz1 hz2 rfl (by decide) v8 z1.length (z1.map (Value.int .i64)) rfl HO3.out ⟨w1.heap.size, 0, none⟩ 1 1 [.int .i64 ((i : Int) + 1)] rfl rfl (cell_one_new _ _ _) (by intro u hu; simp at hu; subst hu; rfl) (by have := HLS.out; unfold maxLen; omega) (by have := HLS.out; omega) hwz2 ?_; intro v' w5 hown hgrow hnil hat)) | fail)
    have HR3 := Aside0.mk (HR2.out.push (HT.out.asker _) ((i : Int) + 1) v' w5 hown hgrow hat)
    rw [HZ1.out] at HR3
    clear hown hgrow hnil hat HR2 HO3 hwz hwz2 HZ1 HLS
    obtain ⟨X1, hX1⟩ : ∃ X, ascend O (N : Int) down (N : Int).toNat s1 ((i : Int) + 2) = X := ⟨_, rfl⟩
    have HX1 := Aside0.mk hX1
    have HTG0 := Aside0.mk (show Tgt st0 s1 X1 st0 s1 (ascend O (N : Int) down N s1 ((i : Int) + (((1 : Nat) : Int) + 1))) by
      have e : ascend O (N : Int) down N s1 ((i : Int) + (((1 : Nat) : Int) + 1)) = X1 := by
        rw [← hX1, Int.toNat_natCast, show (i : Int) + (((1 : Nat) : Int) + 1) = (i : Int) + 2 by omega]
      rw [e]
      exact Tgt.mk0 _ _ _ (fun _ => .inr trivial))
    have HQS := Aside0.mk (show s1.length ≤ 9000001 by rw [← HS1.out, List.length_append, List.length_singleton]; omega)
    clear hX1
    go_cut [8, 9] (fun s8 s9 wx => ∃ (k : Nat) (st : Bool) (s : Asked) (C : Nat → Prop), s9 = .int .i64 ((i : Int) + ((k : Int) + 1)) ∧ 1 ≤ k ∧ i + k < N ∧ Aside0 (Tgt st0 s1 X1 st s (s, some ((i : Int) + ((k : Int) + 1)))) ∧ Aside0 (s.length ≤ s1.length + (k + 1)) ∧ Aside0 (Rn (I st) C0 w0 s8 (span (i : Int) (k + 1)) s C wx))
    case first =>
      go_wp2_with fail
      go_loopg [8, 9] N (fun kq v8 v9 w' => ∃ (k f : Nat) (st : Bool) (s : Asked) (C : Nat → Prop), v9 = .int .i64 ((i : Int) + ((k : Int) + 1)) ∧ 1 ≤ k ∧ i + k < N ∧ N ≤ i + (k + 1) + kq ∧ N ≤ i + (k + 1) + f ∧ Aside0 (Tgt st0 s1 X1 st s (ascend O (N : Int) down f s ((i : Int) + ((k : Int) + 1)))) ∧ Aside0 (s.length ≤ s1.length + k) ∧ Aside0 (Rn (I st) C0 w0 v8 (span (i : Int) (k + 1)) s C w'))
      case atStart => exact ⟨1, N, st0, s1, C1, by first | rfl | (show Value.int .i64 _ = _; congr 1; omega) | simp, by omega, by omega, by omega, by omega, HTG0, ⟨by omega⟩, HR3⟩
      case round =>
        clear HR3 HTG0
        obtain ⟨k, f, st, s, C, rfl, hk1, hkN, hkq, hf, HTG, HQ, HRN⟩ := hrel
        have hstop := HT.out.stop st s C wr HRN.out.st.inv
        by_cases hlt : i + (k + 1) < N ∧ st = false
        · obtain ⟨hlt, rfl⟩ := hlt
          obtain ⟨jq, rfl⟩ : ∃ q, gk = q + 1 := ⟨gk - 1, by omega⟩
          obtain ⟨f, rfl⟩ : ∃ q, f = q + 1 := ⟨f - 1, by omega⟩
          have CALL := Aside0.mk (HT.out.ask s C wr ((i : Int) + ((k : Int) + 1)) ((i : Int) + ((k : Int) + 1) - 1) HRN.out.st.inv (by omega) (by omega) (by omega) (by omega) (by have := HQ.out; have := HQS.out; omega))
          go_wp2_with fail
          refine Calls.mono CALL.out ?_
          rintro e w2 ⟨rfl, C2, hI2, hm2⟩
          have HRN2 := Aside0.mk (HRN.out.told hI2 (HT.out.lt _ _ _ _ hI2) hm2)
          have hstop2 := HT.out.stop _ _ _ _ hI2
          have HT4 := Aside0.mk (show ((O s.length ((i : Int) + ((k : Int) + 1)) ((i : Int) + ((k : Int) + 1) - 1)).getD false = down ∧ (O s.length ((i : Int) + ((k : Int) + 1)) ((i : Int) + ((k : Int) + 1) - 1)).isNone = false → Tgt st0 s1 X1 false (s ++ [((i : Int) + ((k : Int) + 1), (i : Int) + ((k : Int) + 1) - 1)]) (ascend O (N : Int) down f (s ++ [((i : Int) + ((k : Int) + 1), (i : Int) + ((k : Int) + 1) - 1)]) ((i : Int) + (((k + 1 : Nat) : Int) + 1)))) ∧
              (((O s.length ((i : Int) + ((k : Int) + 1)) ((i : Int) + ((k : Int) + 1) - 1)).isNone = true ∨ (O s.length ((i : Int) + ((k : Int) + 1)) ((i : Int) + ((k : Int) + 1) - 1)).getD false ≠ down) → Tgt st0 s1 X1 (O s.length ((i : Int) + ((k : Int) + 1)) ((i : Int) + ((k : Int) + 1) - 1)).isNone (s ++ [((i : Int) + ((k : Int) + 1), (i : Int) + ((k : Int) + 1) - 1)]) (s ++ [((i : Int) + ((k : Int) + 1), (i : Int) + ((k : Int) + 1) - 1)], some ((i : Int) + ((k : Int) + 1)))) by
            have hlt2 : (i : Int) + ((k : Int) + 1) < (N : Int) := by omega
            cases hr : O s.length ((i : Int) + ((k : Int) + 1)) ((i : Int) + ((k : Int) + 1) - 1) with
            | none => exact ⟨fun h => by simp at h, fun _ => HTG.out.halt (ascend_none hlt2 hr)⟩
            | some b =>
              have e := ascend_on (f := f) (down := down) hlt2 b hr
              by_cases hb : b = down
              · subst hb
                rw [if_pos rfl] at e
                exact ⟨fun _ => HTG.out.on (by rw [e, show (i : Int) + (((k + 1 : Nat) : Int) + 1) = (i : Int) + ((k : Int) + 1) + 1 by omega]), fun h => by simp at h⟩
              · rw [if_neg hb] at e
                exact ⟨fun h => absurd h.1 hb, fun _ => HTG.out.on e.symm⟩)
          obtain ⟨st4, hst4⟩ : ∃ q, (O s.length ((i : Int) + ((k : Int) + 1)) ((i : Int) + ((k : Int) + 1) - 1)).isNone = q := ⟨_, rfl⟩
          obtain ⟨b4, hb4⟩ : ∃ q, (O s.length ((i : Int) + ((k : Int) + 1)) ((i : Int) + ((k : Int) + 1) - 1)).getD false = q := ⟨_, rfl⟩
          rw [hst4] at HRN2 hstop2
          rw [hst4, hb4] at HT4
          rw [hb4]
          clear hst4 hb4 HTG hI2 hm2 CALL HRN hstop
          cases st4 with
          | false =>
           cases b4 with
           | false =>
            cases down with
            | false =>
              have hwz : w0.heap.size ≤ w2.heap.size := HRN2.out.st.mv.size
              have hwz2 : w0.heap.size ≤ (w2.alloc (.cells #[.int .i64 ((i : Int) + ((k : Int) + 1))] 2)).heap.size := by simp; omega
              have hls := span_length (i : Int) (k + 1)
              obtain ⟨z1, hz⟩ : ∃ z, span (i : Int) (k + 1) = z := ⟨_, rfl⟩
              have HZ1 := Aside0.mk (show z1 ++ [(i : Int) + ((k : Int) + 1)] = span (i : Int) (k + 1 + 1) by rw [← hz, span]; rfl)
              rw [hz] at HRN2 hls
              have HLS := Aside0.mk (show z1.length ≤ 2000 by omega)
              have HO3 := Aside0.mk (HRN2.out.own.alloc (.cells #[.int .i64 ((i : Int) + ((k : Int) + 1))] 2))
              clear hls hz
              go_wp2_with (first | (at_builtin; (refine wpList_append_own_at _ rfl _ _ 24 rfl w0.heap.size 2 i0 (.int .i64 0) 1 8 Try.underlying24 hi0 hz0 hz1 hz2 rfl (by decide) u8 z1.length (z1.map (Value.int .i64)) rfl HO3.out ⟨w2.heap.size, 0, none⟩ 1 1 [.int .i64 ((i : Int) + ((k : Int) + 1))] rfl rfl (cell_one_new _ _ _) (by intro u hu; simp at hu; subst hu; rfl) (by have := HLS.out; unfold maxLen; omega) (by have := HLS.out; omega) hwz2 ?_; intro v' w5 hown hgrow hnil hat)) | fail)
              have HR3 := Aside0.mk (HRN2.out.push (HT.out.asker _) ((i : Int) + ((k : Int) + 1)) v' w5 hown hgrow hat)
              rw [HZ1.out] at HR3
              clear hown hgrow hnil hat HRN2 HO3 hwz hwz2 HZ1 HLS
              go_roundg jq
              case measure => omega
              case rel => exact ⟨k + 1, f, false, _, C2, by first | rfl | (show Value.int .i64 _ = _; congr 1; omega), by omega, by omega, by omega, by omega, ⟨HT4.out.1 (by simp)⟩, ⟨by have := HQ.out; rw [List.length_append, List.length_singleton]; omega⟩, HR3⟩
            | true =>
              go_wp2_with fail
              go_meet
              exact ⟨k, false, _, C2, rfl, hk1, hkN, ⟨HT4.out.2 (by simp)⟩, ⟨by have := HQ.out; rw [List.length_append, List.length_singleton]; omega⟩, HRN2⟩
           | true =>
            cases down with
            | false =>
              go_wp2_with fail
              go_meet
              exact ⟨k, false, _, C2, rfl, hk1, hkN, ⟨HT4.out.2 (by simp)⟩, ⟨by have := HQ.out; rw [List.length_append, List.length_singleton]; omega⟩, HRN2⟩
            | true =>
              have hwz : w0.heap.size ≤ w2.heap.size := HRN2.out.st.mv.size
              have hwz2 : w0.heap.size ≤ (w2.alloc (.cells #[.int .i64 ((i : Int) + ((k : Int) + 1))] 2)).heap.size := by simp; omega
              have hls := span_length (i : Int) (k + 1)
              obtain ⟨z1, hz⟩ : ∃ z, span (i : Int) (k + 1) = z := ⟨_, rfl⟩
              have HZ1 := Aside0.mk (show z1 ++ [(i : Int) + ((k : Int) + 1)] = span (i : Int) (k + 1 + 1) by rw [← hz, span]; rfl)
              rw [hz] at HRN2 hls
              have HLS := Aside0.mk (show z1.length ≤ 2000 by omega)
              have HO3 := Aside0.mk (HRN2.out.own.alloc (.cells #[.int .i64 ((i : Int) + ((k : Int) + 1))] 2))
              clear hls hz
              go_wp2_with (first | (at_builtin; (refine wpList_append_own_at _ rfl _ _ 24 rfl w0.heap.size 2 i0 (.int .i64 0) 1 8 Try.underlying24 hi0 hz0 hz1 hz2 rfl (by decide) u8 z1.length (z1.map (Value.int .i64)) rfl HO3.out ⟨w2.heap.size, 0, none⟩ 1 1 [.int .i64 ((i : Int) + ((k : Int) + 1))] rfl rfl (cell_one_new _ _ _) (by intro u hu; simp at hu; subst hu; rfl) (by have := HLS.out; unfold maxLen; omega) (by have := HLS.out; omega) hwz2 ?_; intro v' w5 hown hgrow hnil hat)) | fail)
              have HR3 := Aside0.mk (HRN2.out.push (HT.out.asker _) ((i : Int) + ((k : Int) + 1)) v' w5 hown hgrow hat)
              rw [HZ1.out] at HR3
              clear hown hgrow hnil hat HRN2 HO3 hwz hwz2 HZ1 HLS
              go_roundg jq
              case measure => omega
              case rel => exact ⟨k + 1, f, false, _, C2, by first | rfl | (show Value.int .i64 _ = _; congr 1; omega), by omega, by omega, by omega, by omega, ⟨HT4.out.1 (by simp)⟩, ⟨by have := HQ.out; rw [List.length_append, List.length_singleton]; omega⟩, HR3⟩
          | true =>
           cases b4 with
           | false =>
            cases down with
            | false =>
              go_wp2_with fail
              go_meet
              exact ⟨k, true, _, C2, rfl, hk1, hkN, ⟨HT4.out.2 (by simp)⟩, ⟨by have := HQ.out; rw [List.length_append, List.length_singleton]; omega⟩, HRN2⟩
            | true =>
              go_wp2_with fail
              go_meet
              exact ⟨k, true, _, C2, rfl, hk1, hkN, ⟨HT4.out.2 (by simp)⟩, ⟨by have := HQ.out; rw [List.length_append, List.length_singleton]; omega⟩, HRN2⟩
           | true =>
            cases down with
            | false =>
              go_wp2_with fail
              go_meet
              exact ⟨k, true, _, C2, rfl, hk1, hkN, ⟨HT4.out.2 (by simp)⟩, ⟨by have := HQ.out; rw [List.length_append, List.length_singleton]; omega⟩, HRN2⟩
            | true =>
              go_wp2_with fail
              go_meet
              exact ⟨k, true, _, C2, rfl, hk1, hkN, ⟨HT4.out.2 (by simp)⟩, ⟨by have := HQ.out; rw [List.length_append, List.length_singleton]; omega⟩, HRN2⟩
        · have HTG2 := Aside0.mk (show Tgt st0 s1 X1 st s (s, some ((i : Int) + ((k : Int) + 1))) by
            cases st with
            | true => exact HTG.out.stay
            | false => exact HTG.out.on (ascend_stop (by intro h; exact hlt ⟨by omega, rfl⟩)).symm)
          by_cases hl2 : i + (k + 1) < N
          · have hst : st = true := by
              cases st with
              | true => rfl
              | false => exact absurd ⟨hl2, rfl⟩ hlt
            subst hst
            clear hlt
            go_wp2_with fail
            go_meet
            exact ⟨k, true, s, C, rfl, hk1, hkN, HTG2, ⟨by have := HQ.out; omega⟩, HRN⟩
          · have hl3 : ¬ (i : Int) + ((k : Int) + 1) < (N : Int) := by omega
            clear hlt
            go_wp2_with fail
            go_meet
            exact ⟨k, st, s, C, rfl, hk1, hkN, HTG2, ⟨by have := HQ.out; omega⟩, HRN⟩
    case rest =>
      clear HR3 HTG0
      obtain ⟨k, st, s, C, rfl, hk1, hkN, HTG, HQ, HRN⟩ := hcut
      go_upto_if 63 with fail
      go_cut [8] (fun s8 wx => Aside0 (Rn (I st) C0 w0 s8 (if down = true then (span (i : Int) (k + 1)).reverse else span (i : Int) (k + 1)) s C wx))
      case first =>
        cases down with
        | false =>
          go_wp2_with fail
          go_meet
          exact HRN
        | true =>
          obtain ⟨g8, c8, rfl, _⟩ := span_form HRN.out.own
          have HT0 := Aside0.mk (turn_zero (span (i : Int) (k + 1)))
          have HLN := Aside0.mk (span_length (i : Int) (k + 1))
          have HF8 := Aside0.mk (HRN.out.off g8 rfl)
          obtain ⟨q2, hq2⟩ : ∃ q, (k + 1) / 2 = q := ⟨_, rfl⟩
          have hqI : ((k : Int) + 1) / 2 = (q2 : Int) := by omega
          have hqT : Int.tdiv ((k : Int) + 1) 2 = (q2 : Int) := by rw [Int.tdiv_eq_ediv_of_nonneg (by omega)]; exact hqI
          have hq3 : 2 * q2 ≤ k + 1 ∧ k ≤ 2 * q2 := by omega
          clear hq2
          go_wp2_with fail
          go_loopg [11, 12] q2 (fun kq v11 v12 w' => ∃ (m : Nat) (l : List Int), v11 = .int .i64 (m : Int) ∧ m ≤ q2 ∧ q2 ≤ m + kq ∧ Aside0 (Turn (span (i : Int) (k + 1)) l m) ∧
            Aside0 (w'.ownsRow w0.heap.size 2 1 (.slice (some ⟨g8, 0, none⟩) (k + 1) c8) (k + 1) (l.map (Value.int .i64))) ∧ Aside0 (St (I st) C0 w0 s C w'))
          case atStart => exact ⟨0, _, by first | rfl | simp, by omega, by omega, HT0, ⟨by have h := HRN.out.own; unfold Ow at h; rw [span_length] at h; exact h⟩, ⟨HRN.out.st⟩⟩
          case round =>
            clear HRN HT0
            obtain ⟨m, l, rfl, hm1, hm2, HT2, HO, HS⟩ := hrel
            by_cases hc3 : m < q2
            · obtain ⟨jq, rfl⟩ : ∃ q, gk = q + 1 := ⟨gk - 1, by omega⟩
              have hnl := HT2.out.1
              rw [HLN.out] at hnl
              obtain ⟨x, hx⟩ : ∃ x, l[m]? = some x := ⟨_, List.getElem?_eq_getElem (by omega)⟩
              obtain ⟨mm, hmm⟩ : ∃ mm, k - m = mm := ⟨_, rfl⟩
              obtain ⟨y, hy⟩ : ∃ y, l[mm]? = some y := ⟨_, List.getElem?_eq_getElem (by omega)⟩
              have hkm : (k : Int) - (m : Int) = (mm : Int) := by omega
              have hxc : wr.cell? ⟨g8, m, none⟩ = some (.int .i64 x) := by rw [HO.out.cellAt m (by omega), List.getElem?_map, hx]; rfl
              have hyc : wr.cell? ⟨g8, mm, none⟩ = some (.int .i64 y) := by rw [HO.out.cellAt mm (by omega), List.getElem?_map, hy]; rfl
              have hxf := HO.out.frozenAt m
              have K1 := HO.out.stored m (.int .i64 y)
              have hyc2 : (wr.setCell ⟨g8, m, none⟩ (.int .i64 y)).cell? ⟨g8, mm, none⟩ = some (.int .i64 y) := by
                rw [K1.1.cellAt mm (by omega), List.getElem?_set_ne (by omega), List.getElem?_map, hy]
                rfl
              have hyf2 := K1.1.frozenAt mm
              have K2 := K1.1.stored mm (.int .i64 x)
              rw [← List.map_set, ← List.map_set] at K2
              have HO2 := Aside0.mk K2.1
              have HS2 := Aside0.mk (HS.out.grown (HT.out.asker st) (K1.2.trans K2.2) (fun q hq => by injection hq with hq; subst hq; exact ⟨HF8.out, (HO.out.lt g8 rfl).1⟩))
              have HT3 := Aside0.mk (turn_step HT2.out (by rw [HLN.out]; omega) x y hx (by rw [HLN.out, show k + 1 - 1 - m = mm by omega]; exact hy))
              have hmm2 : mm ≤ k := by omega
              have HMM := Aside0.mk hmm
              clear hx hy hnl hmm HT2 K1 K2 HO HS
              go_wp2_with fail
              go_roundg jq
              case measure => omega
              case rel => exact ⟨m + 1, _, by first | rfl | simp, by omega, by omega, ⟨by have h := HT3.out; rw [HLN.out, show k + 1 - 1 - m = mm by have := HMM.out; omega] at h; exact h⟩, HO2, HS2⟩
            · have HTE := Aside0.mk (turn_end HT2.out (by rw [HLN.out]; omega))
              have hc4 : ¬ (m : Int) < (q2 : Int) := by omega
              go_wp2_with fail
              go_meet
              refine ⟨⟨?_, fun q hq => ?_, HS.out⟩⟩
              · rw [if_pos trivial, ← HTE.out]
                have h := HO.out
                have hl := HT2.out.1
                unfold Ow
                rw [hl, span_length]
                exact h
              · have : g8 = q := by simpa [Value.ownBlock] using hq
                rw [← this]; exact HF8.out
      case rest =>
        clear HRN
        have HRN := hcut
        clear hcut
        obtain ⟨L0, hL0⟩ : ∃ L, (if down = true then (span (i : Int) (k + 1)).reverse else span (i : Int) (k + 1)) = L := ⟨_, rfl⟩
        rw [hL0] at HRN
        have HLL := Aside0.mk (show L0.length = k + 1 ∧ (∀ x ∈ L0, 0 ≤ x ∧ x < (N : Int)) by
          rw [← hL0]
          refine ⟨by split <;> simp [span_length], fun x hx => ?_⟩
          have h1 : x ∈ span (i : Int) (k + 1) := by
            split at hx
            · exact List.mem_reverse.1 hx
            · exact hx
          have := span_mem h1
          omega)
        have HL0 := Aside0.mk (show (if down = true then (span (i : Int) ((i : Int) + ((k : Int) + 1) - (i : Int)).toNat).reverse else span (i : Int) ((i : Int) + ((k : Int) + 1) - (i : Int)).toNat) = L0 by
          rw [show ((i : Int) + ((k : Int) + 1) - (i : Int)).toNat = k + 1 by omega]
          exact hL0)
        clear hL0
        go_upto_block 4 with fail
        obtain ⟨X2, hX2⟩ : ∃ X, fill O (N : Int) 6 s L0 ((i : Int) + ((k : Int) + 1)) = X := ⟨_, rfl⟩
        have HX2 := Aside0.mk hX2
        have HTF := Aside0.mk (show Tgt st s X2 st s (fill O (N : Int) 6 s L0 (((i + (k + 1) : Nat)) : Int)) by
          have e : fill O (N : Int) 6 s L0 (((i + (k + 1) : Nat)) : Int) = X2 := by rw [← hX2]; congr 1
          rw [e]
          exact Tgt.mk0 _ _ _ (fun _ => .inr trivial))
        have HQ5 := Aside0.mk (show s.length ≤ 9003000 by have := HQ.out; have := HQS.out; omega)
        clear hX2
        go_cut [8, 9] (fun s8 s9 wx => ∃ (j : Nat) (L : List Int) (st2 : Bool) (s2 : Asked) (C2 : Nat → Prop), s9 = .int .i64 (j : Int) ∧ i < j ∧ j ≤ N ∧ Aside0 (L.length = j - i ∧ ∀ x ∈ L, 0 ≤ x ∧ x < (N : Int)) ∧ Aside0 (Tgt st s X2 st2 s2 (s2, some (L, (j : Int)))) ∧ Aside0 (Rn (I st2) C0 w0 s8 L s2 C2 wx))
        case first =>
          go_wp2_with fail
          go_loopg [8, 9] 6 (fun kq v8 v9 w' => ∃ (j f : Nat) (L : List Int) (st2 : Bool) (s2 : Asked) (C2 : Nat → Prop), v9 = .int .i64 (j : Int) ∧ i < j ∧ j ≤ N ∧ f ≤ 6 ∧ 6 ≤ f + L.length ∧ 6 ≤ kq + L.length ∧ 1 ≤ L.length ∧ L.length ≤ 2000 ∧ Aside0 (L.length = j - i ∧ ∀ x ∈ L, 0 ≤ x ∧ x < (N : Int)) ∧
            Aside0 (Tgt st s X2 st2 s2 (fill O (N : Int) f s2 L (j : Int))) ∧ Aside0 (s2.length + 10 * f ≤ s.length + 60) ∧ Aside0 (Rn (I st2) C0 w0 v8 L s2 C2 w'))
          case atStart => exact ⟨i + (k + 1), 6, L0, st, s, C, by first | rfl | simp, by omega, by omega, Nat.le_refl _, by omega, by omega, by have := HLL.out.1; omega, by have := HLL.out.1; omega, ⟨by have := HLL.out.1; omega, HLL.out.2⟩, HTF, ⟨by omega⟩, HRN⟩
          case round =>
            clear HRN HTF
            obtain ⟨j, f, L, st2, s2, C2, rfl, hij, hjN, hf6, hfL, hkq, hL1, hL2, HOK, HTF, HQ6, HRN⟩ := hrel
            have hstop := HT.out.stop st2 s2 C2 wr HRN.out.st.inv
            obtain ⟨g8, c8, n8, hln8, rfl⟩ := own_form HRN.out.own hL1
            have HNL := Aside0.mk hln8
            rw [hln8] at hfL hkq hL1 hL2
            by_cases hc3 : (j < N ∧ n8 < 6) ∧ st2 = false
            · obtain ⟨⟨hj2, hn6⟩, rfl⟩ := hc3
              obtain ⟨jq, rfl⟩ : ∃ q, gk = q + 1 := ⟨gk - 1, by omega⟩
              obtain ⟨f, rfl⟩ : ∃ q, f = q + 1 := ⟨f - 1, by omega⟩
              clear hln8
              go_upto_block 6 with fail
              obtain ⟨X3, hX3⟩ : ∃ X, place O L (j : Int) 10 s2 0 n8 = X := ⟨_, rfl⟩
              have HX3 := Aside0.mk hX3
              have HTP := Aside0.mk (show Tgt false s2 X3 false s2 (place O L (j : Int) 10 s2 0 n8) by
                rw [hX3]
                exact Tgt.mk0 _ _ _ (fun _ => .inr trivial))
              clear hX3
              go_cut [13] (fun s13 wx => ∃ (p : Nat) (st3 : Bool) (s3 : Asked) (C3 : Nat → Prop), s13 = .int .i64 (p : Int) ∧ p ≤ n8 ∧ Aside0 (Tgt false s2 X3 st3 s3 (s3, some p)) ∧ Aside0 (s3.length ≤ s2.length + 10) ∧ Aside0 (Rn (I st3) C0 w0 (.slice (some ⟨g8, 0, none⟩) n8 c8) L s3 C3 wx))
              case first =>
                go_wp2_with fail
                go_loopg [13, 14] n8 (fun kq v13 v14 w' => ∃ (lo hh f2 : Nat) (st3 : Bool) (s3 : Asked) (C3 : Nat → Prop), v13 = .int .i64 (lo : Int) ∧ v14 = .int .i64 (hh : Int) ∧ lo ≤ hh ∧ hh ≤ n8 ∧ hh ≤ lo + kq ∧ hh ≤ lo + f2 ∧ Aside0 (Tgt false s2 X3 st3 s3 (place O L (j : Int) f2 s3 lo hh)) ∧ Aside0 (s3.length + (hh - lo) ≤ s2.length + 5) ∧
                  Aside0 (Rn (I st3) C0 w0 (.slice (some ⟨g8, 0, none⟩) n8 c8) L s3 C3 w'))
                case atStart => exact ⟨0, n8, 10, false, s2, C2, by first | rfl | simp, by first | rfl | simp, by omega, Nat.le_refl _, by omega, by omega, HTP, ⟨by omega⟩, HRN⟩
                case round =>
                  clear HRN HTP hstop
                  obtain ⟨lo, hh, f2, st3, s3, C3, rfl, rfl, hlh, hhn, hkq2, hf2, HTP, HQ7, HRN⟩ := hrel
                  have hstop := HT.out.stop st3 s3 C3 wr HRN.out.st.inv
                  by_cases hlt2 : lo < hh ∧ st3 = false
                  · obtain ⟨hlt2, rfl⟩ := hlt2
                    obtain ⟨jq2, rfl⟩ : ∃ q, gk = q + 1 := ⟨gk - 1, by omega⟩
                    obtain ⟨mid, hmid⟩ : ∃ m, (lo + hh) / 2 = m := ⟨_, rfl⟩
                    have hm1 : lo ≤ mid ∧ mid < hh := by omega
                    have hmI : ((lo : Int) + (hh : Int)) / 2 = (mid : Int) := by omega
                    have hmT : Int.tdiv ((lo : Int) + (hh : Int)) 2 = (mid : Int) := by rw [Int.tdiv_eq_ediv_of_nonneg (by omega)]; exact hmI
                    obtain ⟨y, hy⟩ : ∃ y, L.getD mid 0 = y := ⟨_, rfl⟩
                    have hml : mid < L.length := by rw [HNL.out]; omega
                    have hyr : 0 ≤ y ∧ y < (N : Int) := by
                      rw [← hy, List.getD_eq_getElem?_getD, List.getElem?_eq_getElem hml]
                      exact HOK.out.2 _ (List.getElem_mem hml)
                    have hcell : wr.cell? ⟨g8, mid, none⟩ = some (.int .i64 y) := by
                      have h1 := HRN.out.own
                      unfold Ow at h1
                      rw [HNL.out] at h1
                      rw [h1.cellAt mid (by omega), List.getElem?_map, List.getElem?_eq_getElem hml, ← hy, List.getD_eq_getElem?_getD, List.getElem?_eq_getElem hml]
                      rfl
                    have CALL := Aside0.mk (HT.out.ask s3 C3 wr (j : Int) y HRN.out.st.inv (by omega) (by omega) hyr.1 hyr.2 (by have := HQ7.out; have := HQ6.out; have := HQ5.out; omega))
                    have HY := Aside0.mk hy
                    have HMID := Aside0.mk hmid
                    clear hml hyr hy hmid
                    go_wp2_with fail
                    refine CALL.out.mono ?_
                    rintro e w2 ⟨rfl, C4, hI4, hm4⟩
                    have HRN2 := Aside0.mk (HRN.out.told hI4 (HT.out.lt _ _ _ _ hI4) hm4)
                    have HT4 := Aside0.mk (show ((O s3.length (j : Int) y).getD false = true → Tgt false s2 X3 (O s3.length (j : Int) y).isNone (s3 ++ [((j : Int), y)]) (place O L (j : Int) (f2 - 1) (s3 ++ [((j : Int), y)]) lo mid)) ∧ ((O s3.length (j : Int) y).getD false = false → Tgt false s2 X3 (O s3.length (j : Int) y).isNone (s3 ++ [((j : Int), y)]) (place O L (j : Int) (f2 - 1) (s3 ++ [((j : Int), y)]) (mid + 1) hh)) by
                      cases hr : O s3.length (j : Int) y with
                      | none => exact ⟨fun h => by simp at h, fun _ => HTP.out.halt (place_none' hlt2 hf2 HMID.out HY.out hr)⟩
                      | some b =>
                        have e := place_on' hlt2 hf2 HMID.out HY.out b hr
                        cases b with
                        | true => exact ⟨fun _ => HTP.out.on (by rw [e, if_pos rfl]), fun h => by simp at h⟩
                        | false => exact ⟨fun h => by simp at h, fun _ => HTP.out.on (by rw [e, if_neg (by simp)])⟩)
                    obtain ⟨st4, hst4⟩ : ∃ q, (O s3.length (j : Int) y).isNone = q := ⟨_, rfl⟩
                    obtain ⟨b4, hb4⟩ : ∃ q, (O s3.length (j : Int) y).getD false = q := ⟨_, rfl⟩
                    rw [hst4] at HRN2
                    rw [hst4, hb4] at HT4
                    rw [hb4]
                    clear hst4 hb4 HTP hI4 hm4 CALL HRN hcell hstop
                    cases b4 with
                    | true =>
                      go_wp2
                      go_roundg jq2
                      case measure => omega
                      case rel => exact ⟨lo, mid, f2 - 1, st4, _, C4, by first | rfl | simp, by first | rfl | simp, by omega, by omega, by omega, by omega, ⟨HT4.out.1 trivial⟩, ⟨by have := HQ7.out; rw [List.length_append, List.length_singleton]; omega⟩, HRN2⟩
                    | false =>
                      go_wp2
                      go_roundg jq2
                      case measure => omega
                      case rel => exact ⟨mid + 1, hh, f2 - 1, st4, _, C4, by first | rfl | simp, by first | rfl | simp, by omega, by omega, by omega, by omega, ⟨HT4.out.2 trivial⟩, ⟨by have := HQ7.out; rw [List.length_append, List.length_singleton]; omega⟩, HRN2⟩
                  · have HTP2 := Aside0.mk (show Tgt false s2 X3 st3 s3 (s3, some lo) by
                      cases st3 with
                      | true => exact HTP.out.stay
                      | false => exact HTP.out.on (place_stop (fun h => hlt2 ⟨h, rfl⟩)).symm)
                    by_cases hl2 : lo < hh
                    · have hst : st3 = true := by
                        cases st3 with
                        | true => rfl
                        | false => exact absurd ⟨hl2, rfl⟩ hlt2
                      subst hst
                      clear hlt2
                      go_wp2_with fail
                      go_meet
                      exact ⟨lo, true, s3, C3, rfl, by omega, HTP2, ⟨by have := HQ7.out; omega⟩, HRN⟩
                    · have hl3 : ¬ (lo : Int) < (hh : Int) := by omega
                      clear hlt2
                      go_wp2_with fail
                      go_meet
                      exact ⟨lo, st3, s3, C3, rfl, by omega, HTP2, ⟨by have := HQ7.out; omega⟩, HRN⟩
              case rest =>
                clear HRN HTP hstop
                obtain ⟨p, st3, s3, C3, rfl, hpn, HTP, HQ7, HRN⟩ := hcut
                have hcap := hown_cap (show wc.ownsRow w0.heap.size 2 1 (.slice (some ⟨g8, 0, none⟩) n8 c8) n8 (L.map (Value.int .i64)) by have h := HRN.out.own; unfold Ow at h; rw [HNL.out] at h; exact h)
                have HLE := Aside0.mk (show 6 ≤ f + 1 + n8 ∧ 6 ≤ jq + 1 + n8 from ⟨hfL, hkq⟩)
                clear hfL hkq
                go_upto_region 26 with fail
                obtain ⟨wq, hwq0⟩ : ∃ q, wc.heap.size = q := ⟨_, rfl⟩
                have HWQ := Aside0.mk hwq0
                have hwq : wq ≤ (wc.alloc (.cells #[] 2)).heap.size := by simp; omega
                have HE := Aside0.mk (show (wc.alloc (.cells #[] 2)).ownsRow wq 2 1 (.slice (some ⟨wc.heap.size, 0, none⟩) 0 0) 0 [] from World.ownsRow_lit (base := wq) (e := 2) (size := 1) wc #[] 0 (by omega) (by decide) rfl)
                have HO8 := Aside0.mk (show wc.ownsRow w0.heap.size 2 1 (.slice (some ⟨g8, 0, none⟩) n8 c8) n8 (L.map (Value.int .i64)) by have h := HRN.out.own; unfold Ow at h; rw [HNL.out] at h; exact h)
                have HG8 := Aside0.mk (show w0.heap.size ≤ g8 ∧ g8 < wc.heap.size ∧ ¬ C3 g8 from ⟨(HO8.out.lt g8 rfl).1, (HO8.out.lt g8 rfl).2, HRN.out.off g8 rfl⟩)
                have HROW := Aside0.mk (show RowAt (wc.alloc (.cells #[] 2)) w0.heap.size wc.heap.size C3 g8 n8 c8 L from (RowAt.mk HO8.out HG8.out.2.2 HG8.out.2.1 HNL.out).grown (row := none) (World.grownBy_alloc _ _ _) (by simp))
                clear hwq0
                go_cut [16] (fun s16 wx => ∃ (gr cr : Nat), s16 = .slice (some ⟨gr, 0, none⟩) (n8 - p) cr ∧ gr ≠ g8 ∧ Aside0 (wx.ownsRow w0.heap.size 2 1 (.slice (some ⟨gr, 0, none⟩) (n8 - p) cr) (n8 - p) ((L.drop p).map (Value.int .i64))) ∧ Aside0 (wx.ownsRow w0.heap.size 2 1 (.slice (some ⟨g8, 0, none⟩) n8 c8) n8 (L.map (Value.int .i64))) ∧ Aside0 (St (I st3) C0 w0 s3 C3 wx))
                case first =>
                  have HMEET := Aside0.mk (show ∀ (r : Value) (w5 : World), w5.ownsRow wq 2 1 r (0 + (n8 - p)) ([] ++ (L.drop p).map (Value.int .i64)) → (wc.alloc (.cells #[] 2)).grownBy w5 (some wc.heap.size) → (r = .slice none 0 0 ↔ (Value.slice (some ⟨wc.heap.size, 0, none⟩) 0 0) = .slice none 0 0 ∧ n8 - p = 0) →
                      ∃ (gr cr : Nat), r = .slice (some ⟨gr, 0, none⟩) (n8 - p) cr ∧ gr ≠ g8 ∧ Aside0 (w5.ownsRow w0.heap.size 2 1 (.slice (some ⟨gr, 0, none⟩) (n8 - p) cr) (n8 - p) ((L.drop p).map (Value.int .i64))) ∧ Aside0 (w5.ownsRow w0.heap.size 2 1 (.slice (some ⟨g8, 0, none⟩) n8 c8) n8 (L.map (Value.int .i64))) ∧ Aside0 (St (I st3) C0 w0 s3 C3 w5) from by
                    intro r w5 hown hgrow hnil
                    rw [Nat.zero_add, List.nil_append] at hown
                    obtain ⟨gr, cr, rfl, hgr⟩ := own_some hown (fun e => by have := (hnil.1 e).1; cases this)
                    have h1 := HWQ.out
                    have h2 := HG8.out
                    refine ⟨gr, cr, rfl, by omega, ⟨own_weaken hown (by omega)⟩, ⟨(HO8.out.alloc _).kept hgrow (.inr (fun e => ?_))⟩, ⟨HRN.out.st.grown (HT.out.asker st3) ((World.grownBy_alloc wc (.cells #[] 2) (some wc.heap.size)).trans hgrow) (fun q hq => ?_)⟩⟩
                    · injection e with e
                      simp at e
                      omega
                    · injection hq with hq
                      subst hq
                      exact ⟨HRN.out.st.new (Nat.le_refl _), HRN.out.st.mv.size⟩)
                  by_cases hpc : p = c8
                  · subst hpc
                    have HNP := Aside0.mk (show n8 - p = 0 ∧ L.drop p = [] from ⟨by omega, List.drop_eq_nil_of_le (by rw [HNL.out]; omega)⟩)
                    clear HROW HO8 HG8 HRN
                    go_wp2_with (first | (at_builtin; (refine wpList_append_own_at _ rfl _ _ 24 rfl wq 2 i0 (.int .i64 0) 1 8 Try.underlying24 hi0 hz0 hz1 hz2 rfl (by decide) (.slice (some ⟨wc.heap.size, 0, none⟩) 0 0) 0 [] rfl HE.out ⟨g8, 0, none⟩ 0 0 [] rfl rfl (fun j u h => by simp at h) (fun u h => by simp at h) (by unfold maxLen; omega) (by omega) hwq ?_; intro r w5 hown hgrow hnil hat)) | fail)
                    go_meet
                    exact HMEET.out r w5 (by rw [HNP.out.1, HNP.out.2]; exact hown) hgrow ⟨fun h => absurd (hnil.1 h).1 (by simp), fun h => absurd h.1 (by simp)⟩
                  · have HNW := Aside0.mk (rest_news (pa := p) (ma := n8 - p) (ad := ⟨g8, p, none⟩) HROW.out (by omega) (fun _ => rfl))
                    clear HROW HO8 HG8 HRN
                    go_wp2_with (first | (at_builtin; (refine wpList_append_own_at _ rfl _ _ 24 rfl wq 2 i0 (.int .i64 0) 1 8 Try.underlying24 hi0 hz0 hz1 hz2 rfl (by decide) (.slice (some ⟨wc.heap.size, 0, none⟩) 0 0) 0 [] rfl HE.out ⟨g8, p, none⟩ (n8 - p) (c8 - p) ((L.drop p).map (Value.int .i64)) rfl HNW.out.1 HNW.out.2.1 HNW.out.2.2 (by unfold maxLen; omega) (by omega) hwq ?_; intro r w5 hown hgrow hnil hat)) | fail)
                    go_meet
                    exact HMEET.out r w5 hown hgrow hnil
                case rest =>
                  clear HE HROW HWQ hwq HRN HO8
                  obtain ⟨gr, cr, rfl, hgr, HRST, HO8, HST⟩ := hcut
                  have HF3 := Aside0.mk HG8.out.2.2
                  have HB8 := Aside0.mk HG8.out.1
                  have HTK := Aside0.mk ((ow_take HO8.out hpn).alloc (.cells #[.int .i64 (j : Int)] 2))
                  have hwz : w0.heap.size ≤ wc.heap.size := HST.out.mv.size
                  have hwz2 : w0.heap.size ≤ (wc.alloc (.cells #[.int .i64 (j : Int)] 2)).heap.size := by simp; omega
                  have HRS2 := Aside0.mk (HRST.out.alloc (.cells #[.int .i64 (j : Int)] 2))
                  have HTF2 := Aside0.mk (show Tgt st s X2 st3 s3 (fill O (N : Int) f s3 (L.take p ++ (j : Int) :: L.drop p) (((j + 1 : Nat)) : Int)) by
                    cases st3 with
                    | true => exact HTF.out.halt (fill_none (by omega) (by rw [HNL.out]; omega) (by rw [HNL.out, HX3.out]; exact HTP.out.2.2 rfl rfl))
                    | false => exact HTF.out.on (by rw [fill_on (by omega) (by rw [HNL.out]; omega) (by rw [HNL.out, HX3.out]; exact (HTP.out.2.1 rfl rfl).symm)]; rfl))
                  clear HG8 HTP HTF
                  go_wp2_with (first
                    | (at_builtin; (refine wpList_append_own_at _ rfl _ _ 24 rfl w0.heap.size 2 i0 (.int .i64 0) 1 8 Try.underlying24 hi0 hz0 hz1 hz2 rfl (by decide) (.slice (some ⟨g8, 0, none⟩) p c8) p ((L.map (Value.int .i64)).take p) rfl HTK.out ⟨wc.heap.size, 0, none⟩ 1 1 [.int .i64 (j : Int)] rfl rfl (cell_one_new _ _ _) (by intro u hu; simp at hu; subst hu; rfl) (by unfold maxLen; omega) (by omega) hwz2 ?_; intro v7 w7 hown hgrow hnil hat);
                        have HRS7 := Aside0.mk (HRS2.out.kept hgrow (.inr (fun e => hgr (by injection e))));
                        have HST7 := Aside0.mk (HST.out.grown (HT.out.asker st3) ((World.grownBy_alloc wc (.cells #[.int .i64 (j : Int)] 2) (some g8)).trans hgrow) (fun q hq => by injection hq with hq; subst hq; exact ⟨HF3.out, HB8.out⟩));
                        have HF7 := Aside0.mk (show Off C3 v7 from fun q hq => by
                          rcases hat with h1 | h1
                          · rw [h1] at hq
                            injection hq with hq
                            subst hq
                            exact HF3.out
                          · rw [h1] at hq
                            injection hq with hq
                            exact HST.out.new (by simp at hq; omega));
                        have HO7 := Aside0.mk hown;
                        have hwz7 : w0.heap.size ≤ w7.heap.size := Nat.le_trans hwz2 hgrow.size;
                        clear hown hgrow hnil hat HTK HRS2 HST HRST HO8)
                    | (at_builtin; (refine wpList_append_own_at _ rfl _ _ 24 rfl w0.heap.size 2 i0 (.int .i64 0) 1 8 Try.underlying24 hi0 hz0 hz1 hz2 rfl (by decide) v7 (p + 1) ((L.map (Value.int .i64)).take p ++ [.int .i64 (j : Int)]) rfl HO7.out ⟨gr, 0, none⟩ (n8 - p) cr ((L.drop p).map (Value.int .i64)) rfl (by rw [List.length_map, List.length_drop, HNL.out, Nat.mul_one]) (own_news HRS7.out) (ints_one _) (by unfold maxLen; omega) (by omega) hwz7 ?_; intro v9 w9 hown hgrow hnil hat))
                    | fail)
                  have HEQ := Aside0.mk (show (L.take p ++ (j : Int) :: L.drop p).length = n8 + 1 by
                    have := HNL.out
                    rw [List.length_append, List.length_cons, List.length_take, List.length_drop]
                    omega)
                  have HR9 := Aside0.mk (show Rn (I st3) C0 w0 v9 (L.take p ++ (j : Int) :: L.drop p) s3 C3 w9 from by
                    refine ⟨?_, fun q hq => ?_, HST7.out.grown (HT.out.asker st3) hgrow (fun q hq => ⟨HF7.out q hq, (HO7.out.lt q hq).1⟩)⟩
                    · have h1 := hown
                      unfold Ow
                      rw [HEQ.out, List.map_append, List.map_cons, List.map_take]
                      rw [List.append_assoc, show p + 1 + (n8 - p) = n8 + 1 by omega] at h1
                      exact h1
                    · rcases hat with h1 | h1
                      · exact HF7.out q (h1.symm.trans hq)
                      · rw [h1] at hq
                        injection hq with hq
                        exact HST7.out.new (by omega))
                  clear hown hgrow hnil hat HST7 HF7 HO7 HRS7
                  go_roundg jq
                  case measure => omega
                  case rel => exact ⟨j + 1, f, L.take p ++ (j : Int) :: L.drop p, st3, s3, C3, by first | rfl | simp, by omega, by omega, by omega, by rw [HEQ.out]; have := HLE.out; omega, by rw [HEQ.out]; have := HLE.out; omega, by rw [HEQ.out]; omega, by rw [HEQ.out]; omega, ⟨by have := HOK.out.1; have := HNL.out; rw [HEQ.out]; omega, fun x hx => by
                    rcases List.mem_append.1 hx with hx | hx
                    · exact HOK.out.2 x (List.mem_of_mem_take hx)
                    · rcases List.mem_cons.1 hx with rfl | hx
                      · omega
                      · exact HOK.out.2 x (List.mem_of_mem_drop hx)⟩, HTF2, ⟨by have := HQ6.out; have := HQ7.out; omega⟩, HR9⟩
            · have HTF2 := Aside0.mk (show Tgt st s X2 st2 s2 (s2, some (L, (j : Int))) by
                cases st2 with
                | true => exact HTF.out.stay
                | false => exact HTF.out.on (fill_stop (fun h => hc3 ⟨⟨by omega, by rw [← HNL.out]; exact h.2⟩, rfl⟩)).symm)
              clear hln8
              by_cases hj2 : j < N
              · by_cases hn6 : n8 < 6
                · have hst : st2 = true := by
                    cases st2 with
                    | true => rfl
                    | false => exact absurd ⟨⟨hj2, hn6⟩, rfl⟩ hc3
                  subst hst
                  clear hc3
                  go_wp2_with fail
                  go_meet
                  exact ⟨j, L, true, s2, C2, rfl, hij, hjN, HOK, HTF2, HRN⟩
                · clear hc3
                  go_wp2_with fail
                  go_meet
                  exact ⟨j, L, st2, s2, C2, rfl, hij, hjN, HOK, HTF2, HRN⟩
              · clear hc3
                go_wp2_with fail
                go_meet
                exact ⟨j, L, st2, s2, C2, rfl, hij, hjN, HOK, HTF2, HRN⟩
        case rest =>
          clear HRN HTF
          obtain ⟨j, L, st2, s2, C2, rfl, hij, hjN, HOK, HTF, HRN⟩ := hcut
          have HEND := Aside0.mk (run1_end (N := (N : Int)) (i := (i : Int)) (j := (i : Int) + ((k : Int) + 1)) (by omega) HO0.out (by rw [HS1.out, HX1.out]; exact HTG.out) (by rw [HL0.out, HX2.out]; exact HTF.out))
          go_wp2
          go_ret2
          exact ⟨_, L, st2, s2, C2, j, rfl, HRN.out, hij, hjN, HOK.out.1, HOK.out.2, HEND.out⟩
  · have HIN := Aside0.mk (show i + 1 = N by omega)
    have HEND := Aside0.mk (show run1 O (N : Int) s0 (i : Int) = (s0, some ([(i : Int)], ((i + 1 : Nat) : Int))) by
      unfold run1
      rw [if_neg (by omega)]
      rfl)
    have hspan : span (i : Int) (0 + 1) = [(i : Int)] := by simp [span]
    rw [hspan] at HR1
    clear hspan
    have hcc : ¬ ((i : Int) + 1 < (N : Int)) := by omega
    go_enter Try.func34, Try.ntmps34
    go_upto_block 4 with fail
    go_cut [8, 9] (fun s8 s9 wx => s9 = .int .i64 ((i : Int) + 1) ∧ Aside0 (Rn (I false) C0 w0 s8 [(i : Int)] s0 C0 wx))
    case first =>
      go_wp2_with fail
      go_loopg [8, 9] 0 (fun kq v8 v9 w' => v9 = .int .i64 ((i : Int) + 1) ∧ Aside0 (Rn (I false) C0 w0 v8 [(i : Int)] s0 C0 w'))
      case atStart => exact ⟨rfl, HR1⟩
      case round =>
        clear HR1
        obtain ⟨rfl, HRN⟩ := hrel
        go_wp2_with fail
        go_meet
        exact ⟨rfl, HRN⟩
    case rest =>
      clear HR1
      obtain ⟨rfl, HRN⟩ := hcut
      go_wp2
      go_ret2
      exact ⟨_, [(i : Int)], Or.inl ⟨s0, C0, i + 1, by simp, HRN.out, by omega, by have := HIN.out; omega, by simp, fun x hx => by rw [List.mem_singleton.1 hx]; omega, HEND.out⟩⟩

end Go.Proofs.Ytdibbgldclgokaa.PS
