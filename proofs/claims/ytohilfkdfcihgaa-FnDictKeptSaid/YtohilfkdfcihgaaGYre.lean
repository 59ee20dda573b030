/- What yput comes to where it lays the table anew. By hand; no condition beyond those of the theorems. -/
import Derived.Test.YtohilfkdfcihgaaGYput
import Derived.Deep.RegionLaw
namespace Go.Proofs.Ytohilfkdfcihgaa.PDi
open Go.RowKit Go.Proofs.YtohilfkdfcihgaaW.PrintWords Go.Proofs.YtohilfkdfcihgaaW.PrintLast Go.Proofs.YtohilfkdfcihgaaW.PrintMore
attribute [local go_sem] max2_int min2_int max_two min_two max_three min_three max_four min_four
set_option linter.unusedVariables false
set_option linter.unusedSimpArgs false

set_option maxHeartbeats 1000000 in
set_option maxRecDepth 100000 in
theorem yput_big (base b : Nat) (u0 u1 : Value) (T : List Int) (E : List S62) (live hash key val p q N : Int) (w : World) (hD : DAt w base b u0 u1 T E live) (hf : impl_yfind.f T E live hash key = some (p, q)) (hp : p < 0) (hns : 2 * (T.length : Int) / 3 ≤ E.length)
    (hT1 : T.length ≤ 1000000) (hE1 : E.length ≤ 1000000) (hl0 : 0 ≤ live) (hl1 : live ≤ 1000000)
    (hgr : growO 40 8 live = some N) (hN6 : 65536 < N) :
    Calls Try.prog 49 #[.pointer (some ⟨b, 0, none⟩), .int .u64 hash, .int .i64 key, .int .i64 val] w
      (Left w base b u0 u1 T E live false) := by
  obtain ⟨A0, c0, rfl, hc0, hC0⟩ := Kd.R_reads hD.sl
  obtain ⟨A1, c1, rfl, hc1, hC1⟩ := Kd.R_reads hD.en
  have d0 : w.cell? ⟨b, 0, none⟩ = some (.slice A0 T.length c0) := (blk_cell hD.blk 0).trans rfl
  have d1 : w.cell? ⟨b, 1, none⟩ = some (.slice A1 E.length c1) := (blk_cell hD.blk 1).trans rfl
  have d2 : w.cell? ⟨b, 2, none⟩ = some (.int .i64 live) := (blk_cell hD.blk 2).trans rfl
  have HF := Aside0.mk hf
  have HD := Aside0.mk hD
  have HC0 := Aside0.mk hC0
  have HC1 := Aside0.mk hC1
  have HGR := Aside0.mk hgr
  clear hD hC0 hC1 hf hgr
  generalize hN : T.length = n at *
  have HN := Aside0.mk hN
  generalize hM : E.length = m at *
  have HM := Aside0.mk hM
  clear hN hM
  go_enter Try.func49, Try.ntmps49
  go_wp2_with fail
  have hyf := impl_yfind.calls A0 c0 T A1 c1 E live hash key p q w (by rw [HN.out]; exact HC0.out) (by rw [HN.out]; exact hc0) (by rw [HM.out]; exact HC1.out) (by rw [HM.out]; exact hc1) HF.out
  rw [HN.out, HM.out] at hyf
  refine hyf.mono ?_
  rintro e w1 ⟨rfl, hb⟩
  have HB := Aside0.mk hb
  have HD1 := Aside0.mk (HD.out.below hb)
  have e0 := pw_cell_below hb d0
  have e1 := pw_cell_below hb d1
  have e2 := pw_cell_below hb d2
  clear hyf hb d0 d1 d2
  go_wp2_with fail
  go_quiet (fail)
  have HB2 := Aside0.mk (pw_below_drewN HB.out nq)
  have HD2 := Aside0.mk (HD1.out.below (pw_below_drewN (Below.refl _ _) nq))
  clear e0 e1 e2 HB HD1 HD
  generalize w1.drewN nq = wq at *
  go_wp2_with fail
  go_loopg [11] 40 (fun kq v w' => ∃ x : Int, v = .int .i64 x ∧ 8 ≤ x ∧ x ≤ 10000000 ∧ Aside0 (growO kq x live = some N) ∧ Aside0 (Below w.heap.size w w') ∧ Aside0 (DAt w' base b (.slice A0 n c0) (.slice A1 m c1) T E live))
  case atStart => exact ⟨8, rfl, by omega, by omega, HGR, HB2, HD2⟩
  case round =>
    obtain ⟨k, rfl, hk8, hk6, HG, HBk, HDk⟩ := hrel
    obtain ⟨kq, rfl⟩ : ∃ q, gk = q + 1 := ⟨gk - 1, by have := HG.out; cases gk with | zero => simp [growO] at this | succ => omega⟩
    have e2 : wr.cell? ⟨b, 2, none⟩ = some (.int .i64 live) := (blk_cell HDk.out.blk 2).trans rfl
    have hg := HG.out
    simp only [growO] at hg
    by_cases hle : k ≤ 3 * live
    · rw [if_pos hle] at hg
      have HG2 := Aside0.mk hg
      clear hg HG
      go_wp2
      go_roundg kq
      case measure => omega
      case rel => exact ⟨k * 2, rfl, by omega, by omega, HG2, HBk, HDk⟩
    · rw [if_neg hle] at hg
      obtain rfl := Option.some.inj hg
      clear hg HG
      go_wp2
      go_ret
      exact ⟨rfl, _, _, HDk.out, Only.of_below HBk.out, Of.rfl, Of.rfl⟩

theorem reLay_length (E : List S62) : ∀ (T A : List Int) (acc E2 : List S62), reLay T acc E = some (A, E2) → A.length = T.length ∧ E2.length ≤ acc.length + E.length := by
  induction E with
  | nil =>
    intro T A acc E2 h
    simp only [reLay, Option.some.injEq, Prod.mk.injEq] at h
    obtain ⟨rfl, rfl⟩ := h
    exact ⟨rfl, Nat.le_add_right _ _⟩
  | cons e r ih =>
    intro T A acc E2 h
    simp only [reLay] at h
    split at h
    · have := ih _ _ _ _ h
      exact ⟨this.1, by rw [List.length_cons]; omega⟩
    · obtain ⟨T', hT', h2⟩ := Option.bind_eq_some_iff.1 h
      have := ih _ _ _ _ h2
      refine ⟨this.1.trans (probe_lay_length _ _ _ _ _ _ _ _ hT'), ?_⟩
      rw [List.length_cons]
      have h3 := this.2
      rw [List.length_append] at h3
      simp only [List.length_singleton] at h3
      omega

theorem re_start {wy : World} {base b : Nat} {u0 u1 v : Value} {T Z : List Int} {E : List S62} {live : Int} (h : DAt wy base b u0 u1 T E live) (hv : Kd.R (Kd.int .i64) 2 wy base (fun _ => True) v Z) :
    DAt ((wy.setCell ⟨b, 0, none⟩ v).setCell ⟨b, 1, none⟩ (.slice none 0 0)) base b v (.slice none 0 0) Z [] live ∧ Only wy ((wy.setCell ⟨b, 0, none⟩ v).setCell ⟨b, 1, none⟩ (.slice none 0 0)) b u0 u1 ∧
      Kd.R k62 62 ((wy.setCell ⟨b, 0, none⟩ v).setCell ⟨b, 1, none⟩ (.slice none 0 0)) base (fun k => some k ≠ (Value.slice none 0 0).ownBlock) u1 E := by
  have hbk := h.blk
  have hbk1 : (wy.setCell ⟨b, 0, none⟩ v).heap[b]? = some (.cells #[v, u1, .int .i64 live] 25 (0, 0)) := blk_put hbk 0 v rfl
  refine ⟨⟨blk_put hbk1 1 _ rfl, Kd.R_set (Kd.R_set hv hbk (by decide) 0 v) hbk1 (by decide) 1 _, Kd.R_nil _ _ _ _ _⟩, (Only.cell (u0 := u0) (u1 := u1) 0 v).trans (Only.cell (u0 := u0) (u1 := u1) 1 _) Of.rfl Of.rfl, ?_⟩
  exact Kd.R_mono (Kd.R_set (Kd.R_set h.en hbk (by decide) 0 v) hbk1 (by decide) 1 _) (fun k _ h => by simp [Value.ownBlock] at h)

theorem add1_done {w2 w3 : World} {base b : Nat} {u0 u1 v1 uo : Value} {T : List Int} {E E' Eo : List S62} {live : Int} (h : DAt w2 base b u0 u1 T E live) (hr : Kd.R k62 62 w3 base (fun _ => True) v1 E') (hg : w2.grownBy w3 u1.ownBlock)
    (hat : v1.ownBlock = u1.ownBlock ∨ ∃ b, v1.ownBlock = some b ∧ w2.heap.size ≤ b) (ho : Kd.R k62 62 w2 base (fun k => some k ≠ u1.ownBlock) uo Eo) :
    DAt (w3.setCell ⟨b, 1, none⟩ v1) base b u0 v1 T E' live ∧ Only w2 (w3.setCell ⟨b, 1, none⟩ v1) b u0 u1 ∧ Of w2 u1 v1 ∧ Kd.R k62 62 (w3.setCell ⟨b, 1, none⟩ v1) base (fun k => some k ≠ v1.ownBlock) uo Eo := by
  have hbk := (hg.block b (lt_of_block h.blk) h.ne1).trans h.blk
  have hO : Of w2 u1 v1 := fun k hk => by
    rcases hat with e | ⟨b', e, hb'⟩
    · exact Or.inl (e ▸ hk)
    · rw [e] at hk
      exact Or.inr (by injection hk with hk; omega)
  refine ⟨⟨blk_put hbk 1 v1 rfl, Kd.R_set (Kd.R_over h.sl h.en (by decide) hg) hbk (by decide) 1 v1, Kd.R_set hr hbk (by decide) 1 v1⟩, ?_, hO, ?_⟩
  · exact (Only.grown1 (u0 := u0) hg).trans (Only.cell (u0 := u0) (u1 := v1) 1 v1) Of.rfl hO
  · refine Kd.R_mono (Kd.R_set (Kd.R_grown (Kd.R_bound ho) hg (fun k hk => hk.1)) hbk (by decide) 1 v1) (fun k hk e => ?_)
    rcases hO k e.symm with e' | e'
    · exact hk.1 e'.symm
    · exact absurd hk.2.2.1 (by omega)

theorem keepg3 {w w' : World} {g : Nat} {a1 a2 a3 : Addr} {v1 v2 v3 : Value} (hg : w.grownBy w' (some g)) (h1 : a1.block ≠ g) (h2 : a2.block ≠ g) (h3 : a3.block ≠ g) (h : w.cell? a1 = some v1 ∧ w.cell? a2 = some v2 ∧ w.cell? a3 = some v3) : w'.cell? a1 = some v1 ∧ w'.cell? a2 = some v2 ∧ w'.cell? a3 = some v3 :=
  ⟨grown_cell hg h1 h.1, grown_cell hg h2 h.2.1, grown_cell hg h3 h.2.2⟩

theorem Of.trans {w w1 : World} {u v x : Value} (h : Of w u v) (k : Of w1 v x) (hs : w.heap.size ≤ w1.heap.size) : Of w u x := fun j hj => by
  rcases k j hj with e | e
  · exact h j e
  · exact Or.inr (Nat.le_trans hs e)

set_option maxHeartbeats 1000000 in
set_option maxRecDepth 100000 in
theorem yput_re (base b : Nat) (u0 u1 : Value) (T : List Int) (E : List S62) (live hash key val p q N : Int) (w : World) (hD : DAt w base b u0 u1 T E live) (hf : impl_yfind.f T E live hash key = some (p, q)) (hp : p < 0) (hns : 2 * (T.length : Int) / 3 ≤ E.length)
    (hT1 : T.length ≤ 1000000) (hE1 : E.length ≤ 1000000) (hl0 : 0 ≤ live) (hl1 : live ≤ 1000000)
    (hgr : growO 40 8 live = some N) (hN6 : N ≤ 65536) (hwf : ∀ e ∈ E, 0 ≤ e.f0 ∧ e.f0 ≤ 18446744073709551615) (hb0 : base ≤ w.heap.size) (hh0 : 0 ≤ hash) (hh1 : hash ≤ 18446744073709551615) (T2 T3 : List Int) (E2 : List S62)
    (hrl : reLay (List.replicate N.toNat (-1)) [] E = some (T2, E2)) (hlay : probe (layStep E2.length) hash T2.length 1000000 T2 (hash % T2.length) 5 = some T3) :
    Calls Try.prog 49 #[.pointer (some ⟨b, 0, none⟩), .int .u64 hash, .int .i64 key, .int .i64 val] w
      (Left w base b u0 u1 T3 (E2 ++ [⟨hash, key, val, false⟩]) (live + 1) true) := by
  obtain ⟨A0, c0, rfl, hc0, hC0⟩ := Kd.R_reads hD.sl
  obtain ⟨A1, c1, rfl, hc1, hC1⟩ := Kd.R_reads hD.en
  have d0 : w.cell? ⟨b, 0, none⟩ = some (.slice A0 T.length c0) := (blk_cell hD.blk 0).trans rfl
  have d1 : w.cell? ⟨b, 1, none⟩ = some (.slice A1 E.length c1) := (blk_cell hD.blk 1).trans rfl
  have d2 : w.cell? ⟨b, 2, none⟩ = some (.int .i64 live) := (blk_cell hD.blk 2).trans rfl
  have HF := Aside0.mk hf
  have HD := Aside0.mk hD
  have HC0 := Aside0.mk hC0
  have HC1 := Aside0.mk hC1
  have HGR := Aside0.mk hgr
  have HRL := Aside0.mk hrl
  have HLAY := Aside0.mk hlay
  have HWF := Aside0.mk hwf
  clear hD hC0 hC1 hf hgr hrl hlay hwf
  generalize hN : T.length = n at *
  have HN := Aside0.mk hN
  generalize hM : E.length = m at *
  have HM := Aside0.mk hM
  clear hN hM
  go_enter Try.func49, Try.ntmps49
  go_wp2_with fail
  have hyf := impl_yfind.calls A0 c0 T A1 c1 E live hash key p q w (by rw [HN.out]; exact HC0.out) (by rw [HN.out]; exact hc0) (by rw [HM.out]; exact HC1.out) (by rw [HM.out]; exact hc1) HF.out
  rw [HN.out, HM.out] at hyf
  refine hyf.mono ?_
  rintro e w1 ⟨rfl, hb⟩
  have HB := Aside0.mk hb
  have HD1 := Aside0.mk (HD.out.below hb)
  have e0 := pw_cell_below hb d0
  have e1 := pw_cell_below hb d1
  have e2 := pw_cell_below hb d2
  clear hyf hb d0 d1 d2
  go_wp2_with fail
  go_quiet (fail)
  have HB2 := Aside0.mk (pw_below_drewN HB.out nq)
  have HD2 := Aside0.mk (HD1.out.below (pw_below_drewN (Below.refl _ _) nq))
  clear e0 e1 e2 HB HD1 HD
  generalize w1.drewN nq = wq at *
  go_wp2_with fail
  go_loopg [11] 40 (fun kq v w' => ∃ x : Int, v = .int .i64 x ∧ 8 ≤ x ∧ x ≤ 10000000 ∧ Aside0 (growO kq x live = some N) ∧ Aside0 (Below w.heap.size w w') ∧ Aside0 (DAt w' base b (.slice A0 n c0) (.slice A1 m c1) T E live))
  case atStart => exact ⟨8, rfl, by omega, by omega, HGR, HB2, HD2⟩
  case round =>
    obtain ⟨k, rfl, hk8, hk6, HG, HBk, HDk⟩ := hrel
    obtain ⟨kq, rfl⟩ : ∃ q, gk = q + 1 := ⟨gk - 1, by have := HG.out; cases gk with | zero => simp [growO] at this | succ => omega⟩
    have e2 : wr.cell? ⟨b, 2, none⟩ = some (.int .i64 live) := (blk_cell HDk.out.blk 2).trans rfl
    have hg := HG.out
    simp only [growO] at hg
    by_cases hle : k ≤ 3 * live
    · rw [if_pos hle] at hg
      have HG2 := Aside0.mk hg
      clear hg HG
      go_wp2
      go_roundg kq
      case measure => omega
      case rel => exact ⟨k * 2, rfl, by omega, by omega, HG2, HBk, HDk⟩
    · rw [if_neg hle] at hg
      obtain rfl := Option.some.inj hg
      clear hg HG
      obtain ⟨nn, rfl⟩ := Int.eq_ofNat_of_zero_le (show 0 ≤ k by omega)
      have hrl := HRL.out
      rw [Int.toNat_natCast] at hrl
      have HRL2 := Aside0.mk hrl
      have hrll := reLay_length _ _ _ _ _ hrl
      rw [List.length_replicate, List.length_nil, HM.out] at hrll
      have HY := Aside0.mk (yempty_some nn (nn + 1) (by omega) (by omega))
      clear hrl HRL
      have e1 : wr.cell? ⟨b, 1, none⟩ = some (.slice A1 m c1) := (blk_cell HDk.out.blk 1).trans rfl
      go_wp2_with fail
      refine (impl_yempty.calls _ _ _ _ HY.out).mono ?_
      rintro e wy ⟨v, rfl, ho, hb⟩
      obtain ⟨g, cap, hv, hg0, hg1, _⟩ := Kd.R_form ho (by simp; omega)
      rw [List.length_replicate] at hv
      subst hv
      have hbs : base ≤ wr.heap.size := Nat.le_trans hb0 HBk.out.size
      have HDy := Aside0.mk (HDk.out.below hb)
      have HOy := Aside0.mk (Kd.R_lower ho hbs)
      obtain ⟨st1, st2, st3⟩ := re_start HDy.out HOy.out
      have HON := Aside0.mk ((Only.of_below (b := b) (u0 := .slice A0 n c0) (u1 := .slice A1 m c1) (below_step HBk.out hb)).trans st2 Of.rfl Of.rfl)
      have hOf0 : Of w (.slice A0 n c0) (.slice (some ⟨g, 0, none⟩) nn cap) := fun k hk => Or.inr (by have := HBk.out.size; have e9 : g = k := (by simpa [Value.ownBlock] using hk); omega)
      have HOF0 := Aside0.mk hOf0
      have HST1 := Aside0.mk st1
      have HST3 := Aside0.mk st3
      have z0 : wy.frozen? ⟨b, 0, none⟩ = false := blk_frozen HDy.out.blk 0
      have z1 : wy.frozen? ⟨b, 1, none⟩ = false := blk_frozen HDy.out.blk 1
      have y0 : wy.cell? ⟨b, 0, none⟩ = some (.slice A0 n c0) := (blk_cell HDy.out.blk 0).trans rfl
      have y1 : wy.cell? ⟨b, 1, none⟩ = some (.slice A1 m c1) := (blk_cell HDy.out.blk 1).trans rfl
      clear ho hb HBk HDk hOf0 HY st1 st2 st3
      go_wp2_with fail
      go_loopg [72] m (fun kq v72 w' => ∃ (i : Nat) (T1 : List Int) (E1 : List S62) (u : Value), v72 = .int .i64 i ∧ i + kq = m ∧ Aside0 (reLay T1 E1 (E.drop i) = some (T2, E2)) ∧ Aside0 (T1.length = nn) ∧ Aside0 (E1.length ≤ i) ∧
        Aside0 (DAt w' base b (.slice (some ⟨g, 0, none⟩) nn cap) u T1 E1 live) ∧ Aside0 (Kd.R k62 62 w' base (fun k => some k ≠ u.ownBlock) (.slice A1 m c1) E) ∧ Aside0 (Only w w' b (.slice A0 n c0) (.slice A1 m c1)) ∧ Aside0 (Of w (.slice A1 m c1) u))
      case atStart => exact ⟨0, List.replicate nn (-1), [], .slice none 0 0, rfl, by omega, HRL2, ⟨by simp⟩, ⟨by simp⟩, HST1, HST3, HON, ⟨fun k hk => by simp [Value.ownBlock] at hk⟩⟩
      case round =>
        clear y0 y1 z0 z1 e1 e2 HST1 HST3 HON HRL2
        obtain ⟨i, T1, E1, u, rfl, hik, HRL, HT1, HE1, HD, HOL, HON, HOF1⟩ := hrel
        by_cases hi : i < m
        · have hC := (Kd.R_reads' HOL.out).2.2
          obtain ⟨ad1, rfl, x0, x1, x2, x3⟩ := at_T62 hC (i : Int) (by omega) (by rw [HM.out]; omega)
          rw [Int.toNat_natCast] at x0 x1 x2 x3
          clear hC
          have hl : i < E.length := by rw [HM.out]; exact hi
          have hEi : E[i]? = some (rd_T62 E (i : Int)) := by simp [rd_T62, List.getElem?_eq_getElem hl]
          have hdrop : E.drop i = rd_T62 E (i : Int) :: E.drop (i + 1) := by
            rw [List.drop_eq_getElem_cons hl]
            congr 1
            have := List.getElem?_eq_getElem hl
            rw [hEi] at this
            exact (Option.some.inj this).symm
          have hw := HWF.out _ (List.mem_of_getElem? hEi)
          have H0 := HRL.out
          rw [hdrop] at H0
          generalize rd_T62 E (i : Int) = e at *
          simp only [reLay] at H0
          obtain ⟨kq, rfl⟩ : ∃ q, gk = q + 1 := ⟨gk - 1, by omega⟩
          obtain ⟨A5, c5, rfl, hc5, hC5⟩ := Kd.R_reads HD.out.en
          have e0 : wr.cell? ⟨b, 0, none⟩ = some (.slice (some ⟨g, 0, none⟩) nn cap) := (blk_cell HD.out.blk 0).trans rfl
          have e1 : wr.cell? ⟨b, 1, none⟩ = some (.slice A5 E1.length c5) := (blk_cell HD.out.blk 1).trans rfl
          have HA := Aside0.mk (HD.out.below (below_alloc (Below.refl _ _) (.cells #[.int .u64 e.f0, .int .i64 e.f1, .int .i64 e.f2, .bool e.f3] 62)))
          have HOLA := Aside0.mk (Kd.R_alloc HOL.out (.cells #[.int .u64 e.f0, .int .i64 e.f1, .int .i64 e.f2, .bool e.f3] 62))
          have HONA := Aside0.mk (HON.out.trans (Only.of_below (b := b) (u0 := .slice A0 n c0) (u1 := .slice (some ad1) m c1) (below_alloc (Below.refl _ _) (.cells #[.int .u64 e.f0, .int .i64 e.f1, .int .i64 e.f2, .bool e.f3] 62))) Of.rfl Of.rfl)
          clear hl hEi hdrop HRL hC5
          by_cases t3 : e.f3 = true
          · rw [if_pos t3] at H0
            have HRL := Aside0.mk H0
            rw [t3] at x3 HA HOLA HONA
            clear H0 hw
            go_wp2
            go_roundg kq
            case measure => omega
            case rel => exact ⟨i + 1, T1, E1, _, rfl, by omega, HRL, HT1, ⟨by have := HE1.out; omega⟩, HA, HOLA, HONA, HOF1⟩
          · have t3b : e.f3 = false := by simpa using t3
            rw [if_neg t3] at H0
            obtain ⟨T', hT', h2⟩ := Option.bind_eq_some_iff.1 H0
            have HRL := Aside0.mk h2
            have HLT := Aside0.mk hT'
            rw [t3b] at x3 HA HOLA HONA
            clear H0 t3 hT' h2
            go_wp2_with fail
            have hgl : g < wr.heap.size := Kd.R_lt HD.out.sl g rfl
            have hbl : b < wr.heap.size := lt_of_block HD.out.blk
            have hbg : b ≠ g := fun e => HD.out.ne0 (by rw [e]; rfl)
            have hbe : (wr.alloc (.cells #[.int .u64 e.f0, .int .i64 e.f1, .int .i64 e.f2, .bool false] 62)).heap[wr.heap.size]? = some (.cells #[.int .u64 e.f0, .int .i64 e.f1, .int .i64 e.f2, .bool false] 62 (0, 0)) := heap_alloc_new _ _
            have y0 := pw_cell_below (below_alloc (Below.refl _ wr) (.cells #[.int .u64 e.f0, .int .i64 e.f1, .int .i64 e.f2, .bool false] 62)) e0
            have y1 := pw_cell_below (below_alloc (Below.refl _ wr) (.cells #[.int .u64 e.f0, .int .i64 e.f1, .int .i64 e.f2, .bool false] 62)) e1
            have y2 : (wr.alloc (.cells #[.int .u64 e.f0, .int .i64 e.f1, .int .i64 e.f2, .bool false] 62)).cell? ⟨wr.heap.size, 0, none⟩ = some (.int .u64 e.f0) := (blk_cell hbe 0).trans rfl
            have her : some wr.heap.size ≠ (Value.slice A5 E1.length c5).ownBlock := fun e9 => absurd (Kd.R_lt HD.out.en _ e9.symm) (Nat.lt_irrefl _)
            clear HD HOL HON e0 e1 x0 x1 x2 x3
            generalize wr.alloc (.cells #[.int .u64 e.f0, .int .i64 e.f1, .int .i64 e.f2, .bool false] 62) = wa at *
            generalize wr.heap.size = be at *
            have heg : be ≠ g := by omega
            have hbr : some b ≠ (Value.slice A5 E1.length c5).ownBlock := HA.out.ne1
            go_region_held3 (fun w' => w'.cell? ⟨b, 0, none⟩ = some (.slice (some ⟨g, 0, none⟩) nn cap) ∧ w'.cell? ⟨b, 1, none⟩ = some (.slice A5 E1.length c5) ∧ w'.cell? ⟨be, 0, none⟩ = some (.int .u64 e.f0)) (first | exact keepg3 (by assumption) hbg hbg heg (by assumption) | go_keep) (first | (go_at_call 58; refine (ylay_n nn e.f0 (E1.length : Int) g cap base 1000000 T1 T' _ HT1.out (by omega) (by omega) hw.1 hw.2 (by omega) (own_n (Kd.R_drew HA.out.sl) HT1.out) (by have h9 := HLT.out; rw [HT1.out] at h9; exact h9)).mono ?_; rintro e' w2 ⟨rfl, ho2, hg2⟩))
            have hTl : T'.length = nn := by rw [probe_lay_length _ _ _ _ _ _ _ _ HLT.out]; exact HT1.out
            have HD2 := Aside0.mk ((HA.out.below (below_drew1 (Below.refl _ _))).grown0 hg2 (R_of_n ho2 hTl))
            have HOL2 := Aside0.mk (Kd.R_over (Kd.R_drew HOLA.out) (Kd.R_drew HA.out.sl) (by decide) hg2)
            have HON2 := Aside0.mk ((HONA.out.trans (Only.of_below (b := b) (u0 := .slice (some ⟨g, 0, none⟩) nn cap) (u1 := .slice A5 E1.length c5) (below_drew1 (Below.refl _ _))) HOF0.out HOF1.out).trans (Only.grown0 (u0 := .slice (some ⟨g, 0, none⟩) nn cap) (u1 := .slice A5 E1.length c5) hg2) HOF0.out HOF1.out)
            have hbe2 : w2.heap[be]? = some (.cells #[.int .u64 e.f0, .int .i64 e.f1, .int .i64 e.f2, .bool false] 62 (0, 0)) := (hg2.block be (lt_of_block hbe) (by simpa using heg)).trans hbe
            have hs2 : base ≤ w2.heap.size := Nat.le_trans hb0 HON2.out.size
            rename _ ∧ _ => hS
            clear hS ho2 hg2 HA HOLA HONA y0 y1 y2 hbe
            have e1 : w2.cell? ⟨b, 1, none⟩ = some (.slice A5 E1.length c5) := (blk_cell HD2.out.blk 1).trans rfl
            have f0 : w2.cell? ⟨be, 0, none⟩ = some (.int .u64 e.f0) := (blk_cell hbe2 0).trans rfl
            have f1 : w2.cell? ⟨be, 1, none⟩ = some (.int .i64 e.f1) := (blk_cell hbe2 1).trans rfl
            have f2 : w2.cell? ⟨be, 2, none⟩ = some (.int .i64 e.f2) := (blk_cell hbe2 2).trans rfl
            have f3 : w2.cell? ⟨be, 3, none⟩ = some (.bool false) := (blk_cell hbe2 3).trans rfl
            go_wp2_with fail
            have hb2 : b < w2.heap.size := lt_of_block HD2.out.blk
            have hbe3 : be < w2.heap.size := lt_of_block hbe2
            go_region_law (first | (refine Kd.R_append_step k62 (w0 := w2) (W := w2.drew) base (by rfl) (.tmp 95) (.tmp 97) 23 62 (.agg #[(.int .u64 0), (.int .i64 0), (.int .i64 0), (.bool false)]) 32 rfl Try.underlying23 info62 rfl (by decide) (by omega) (.slice A5 E1.length c5) E1 e [.int .u64 e.f0, .int .i64 e.f1, .int .i64 e.f2, .bool false] (fun _ => True) (fun _ => False) rfl rfl ?aP (fun _ hk => hk.elim) ?aF ?aO ?aB ?aS ?aL ?_; (case aP => exact (by have h9 := k62_mkM w2.drew base (fun _ => False) e; rw [t3b] at h9; exact h9)); (case aB => exact (by first | exact Below.refl _ _ | exact below_drew1 (Below.refl _ _))); (case aF => exact (fun _ _ => trivial)); (case aO => exact (by first | exact HD2.out.en | exact Kd.R_drew HD2.out.en)); (case aS => exact (by first | exact hs2 | simpa using hs2)); (case aL => exact (by have := HE1.out; omega)); intro v1 w3 ho3 hb3 hg3 hat3; obtain ⟨A6, c6, hv6, hc6, hC6⟩ := Kd.R_reads ho3; have hl9 : (E1 ++ [e]).length = E1.length + 1 := (by rw [List.length_append]; rfl); rw [hl9] at hv6; subst hv6; clear hc6 hC6 hl9; have z1 : w3.frozen? ⟨b, 1, none⟩ = false := blk_frozen ((hg3.block b (lt_of_block HD2.out.blk) HD2.out.ne1).trans HD2.out.blk) 1; have y9 : w3.cell? ⟨b, 1, none⟩ = some (.slice A5 E1.length c5) := (blk_cell ((hg3.block b (lt_of_block HD2.out.blk) HD2.out.ne1).trans HD2.out.blk) 1).trans rfl))
            all_goals obtain ⟨k1, k2, k3, k4⟩ := add1_done (HD2.out.below (below_drew1 (Below.refl _ _))) ho3 hg3 hat3 (Kd.R_drew HOL2.out)
            all_goals have HK1 := Aside0.mk k1
            all_goals have HK4 := Aside0.mk k4
            all_goals have HK2 := Aside0.mk (HON2.out.trans ((Only.of_below (b := b) (u0 := .slice (some ⟨g, 0, none⟩) nn cap) (u1 := .slice A5 E1.length c5) (below_drew1 (Below.refl _ _))).trans k2 Of.rfl Of.rfl) HOF0.out HOF1.out)
            all_goals have HK3 := Aside0.mk (Of.trans HOF1.out k3 HON2.out.size)
            all_goals clear k1 k2 k3 k4 ho3 hg3 hb3 hat3 hbe2
            all_goals go_wp2
            all_goals go_roundg kq
            all_goals (first | (case measure => omega) | skip)
            all_goals exact ⟨i + 1, T', E1 ++ [e], _, rfl, by omega, HRL, ⟨hTl⟩, ⟨by rw [List.length_append]; have := HE1.out; simp; omega⟩, HK1, HK4, HK2, HK3⟩
        · have hmi : m = i := by omega
          subst hmi
          have hr := HRL.out
          rw [← HM.out, List.drop_length] at hr
          simp only [reLay, Option.some.injEq, Prod.mk.injEq] at hr
          obtain ⟨rfl, rfl⟩ := hr
          have h9 := HLAY.out
          rw [HT1.out] at h9
          have HLAY2 := Aside0.mk h9
          obtain ⟨A5, c5, rfl, hc5, hC5⟩ := Kd.R_reads HD.out.en
          have e0 : wr.cell? ⟨b, 0, none⟩ = some (.slice (some ⟨g, 0, none⟩) nn cap) := (blk_cell HD.out.blk 0).trans rfl
          have e1 : wr.cell? ⟨b, 1, none⟩ = some (.slice A5 E1.length c5) := (blk_cell HD.out.blk 1).trans rfl
          have hbg : b ≠ g := fun e => HD.out.ne0 (by rw [e]; rfl)
          clear HLAY HRL HOL h9 hc5 hC5
          go_wp2_with fail
          go_region_held3 (fun w' => w'.cell? ⟨b, 0, none⟩ = some (.slice (some ⟨g, 0, none⟩) nn cap) ∧ w'.cell? ⟨b, 1, none⟩ = some (.slice A5 E1.length c5)) (first | exact keepg2 (by assumption) hbg hbg (by assumption) | go_keep) (first | (go_at_call 58; refine (ylay_n nn hash (E1.length : Int) g cap base 1000000 T1 T3 _ HT1.out (by omega) (by omega) hh0 hh1 (by omega) (own_n (Kd.R_drew HD.out.sl) HT1.out) HLAY2.out).mono ?_; rintro e' w2 ⟨rfl, ho2, hg2⟩))
          have hTl : T3.length = nn := by rw [probe_lay_length _ _ _ _ _ _ _ _ HLAY2.out]; exact HT1.out
          have HD3 := Aside0.mk ((HD.out.below (below_drew1 (Below.refl _ _))).grown0 hg2 (R_of_n ho2 hTl))
          have HON2 := Aside0.mk ((HON.out.trans (Only.of_below (b := b) (u0 := .slice (some ⟨g, 0, none⟩) nn cap) (u1 := .slice A5 E1.length c5) (below_drew1 (Below.refl _ _))) HOF0.out HOF1.out).trans (Only.grown0 (u0 := .slice (some ⟨g, 0, none⟩) nn cap) (u1 := .slice A5 E1.length c5) hg2) HOF0.out HOF1.out)
          have hs2 : base ≤ w2.heap.size := Nat.le_trans hb0 HON2.out.size
          rename _ ∧ _ => hS
          clear hS ho2 hg2 HD e0 e1
          have e1 : w2.cell? ⟨b, 1, none⟩ = some (.slice A5 E1.length c5) := (blk_cell HD3.out.blk 1).trans rfl
          go_wp2_with (first | ((with_reducible refine gate_builtin (b := .append) (xs := #[.tmp 117, .tmp 122]) rfl ?_); at_builtin; refine Kd.R_append k62 (w0 := w2) base rfl (.tmp 117) (.tmp 122) 23 62 (.agg #[(.int .u64 0), (.int .i64 0), (.int .i64 0), (.bool false)]) 32 rfl Try.underlying23 info62 rfl (by decide) (by omega) (.slice A5 E1.length c5) E1 (⟨hash, key, val, false⟩ : S62) [.int .u64 hash, .int .i64 key, .int .i64 val, .bool false] (fun _ => True) (fun _ => False) rfl rfl ?aP (fun _ hk => hk.elim) ?aF ?aO ?aB ?aS ?aL ?_; (case aP => exact k62_mkM _ _ _ (⟨hash, key, val, false⟩ : S62)); (case aB => exact Below.refl _ _); (case aF => exact (fun _ _ => trivial)); (case aO => exact HD3.out.en); (case aS => exact hs2); (case aL => have := HE1.out; omega); intro v1 w3 ho3 hb3 hg3 hat3; obtain ⟨A3, c3, hv3, hc3, hC3⟩ := Kd.R_reads ho3; have hl3 : (E1 ++ [(⟨hash, key, val, false⟩ : S62)]).length = E1.length + 1 := (by rw [List.length_append]; rfl); rw [hl3] at hv3; subst hv3; clear hc3 hC3 hl3; have HO3 := Aside0.mk ho3; have HG3 := Aside0.mk hg3; have HAT3 := Aside0.mk hat3; have hbk := (hg3.block b (lt_of_block HD3.out.blk) HD3.out.ne1).trans HD3.out.blk; have y1 : w3.cell? ⟨b, 1, none⟩ = some (.slice A5 E1.length c5) := (blk_cell hbk 1).trans rfl; have y2 : w3.cell? ⟨b, 2, none⟩ = some (.int .i64 live) := (blk_cell hbk 2).trans rfl; have z1 : w3.frozen? ⟨b, 1, none⟩ = false := blk_frozen hbk 1; have z2 : w3.frozen? ⟨b, 2, none⟩ = false := blk_frozen hbk 2; have HBK := Aside0.mk hbk; clear ho3 hb3 hg3 hat3 hbk))
          go_ret
          obtain ⟨q1, q2, q3⟩ := add_done (l' := live + 1) HD3.out HO3.out HG3.out HAT3.out
          exact ⟨rfl, _, _, q1, HON2.out.trans q2 HOF0.out HOF1.out, HOF0.out, Of.trans HOF1.out q3 HON2.out.size⟩

theorem yput_calls (base b : Nat) (u0 u1 : Value) (T T' : List Int) (E E' : List S62) (live live' hash key val : Int) (r : Bool) (w : World) (hD : DAt w base b u0 u1 T E live) (hb0 : base ≤ w.heap.size) (h : yputM T E live hash key val = some (T', E', live', r)) :
    Calls Try.prog 49 #[.pointer (some ⟨b, 0, none⟩), .int .u64 hash, .int .i64 key, .int .i64 val] w (Left w base b u0 u1 T' E' live' r) := by
  unfold yputM at h
  split at h
  · rename_i hc
    obtain ⟨c1, c2, c3, c4, c5, c6, c7, c8⟩ := hc
    obtain ⟨⟨p, q⟩, hf, h⟩ := Option.bind_eq_some_iff.1 h
    simp only at h
    by_cases hp : 0 ≤ p
    · rw [if_pos hp] at h
      by_cases hpe : p < E.length
      · rw [if_pos hpe] at h
        simp only [Option.some.injEq, Prod.mk.injEq] at h
        obtain ⟨rfl, rfl, rfl, rfl⟩ := h
        exact yput_found base b u0 u1 T E live hash key val p q w hD hf hp hpe
      · rw [if_neg hpe] at h
        simp at h
    · rw [if_neg hp] at h
      by_cases hs : 2 * (T.length : Int) / 3 ≤ E.length
      · rw [if_pos hs] at h
        obtain ⟨N, hN, h⟩ := Option.bind_eq_some_iff.1 h
        by_cases hN6 : 65536 < N
        · rw [if_pos hN6] at h
          simp only [Option.some.injEq, Prod.mk.injEq] at h
          obtain ⟨rfl, rfl, rfl, rfl⟩ := h
          exact yput_big base b u0 u1 T E live hash key val p q N w hD hf (by omega) hs c5 c3 c1 c2 hN hN6
        · rw [if_neg hN6] at h
          obtain ⟨⟨T2, E2⟩, hrl, h⟩ := Option.bind_eq_some_iff.1 h
          simp only [put2] at h
          obtain ⟨T3, hlay, h⟩ := Option.bind_eq_some_iff.1 h
          simp only [Option.some.injEq, Prod.mk.injEq] at h
          obtain ⟨rfl, rfl, rfl, rfl⟩ := h
          exact yput_re base b u0 u1 T E live hash key val p q N w hD hf (by omega) hs c5 c3 c1 c2 hN (by omega) c4 hb0 c7 c8 T2 T3 E2 hrl hlay
      · rw [if_neg hs] at h
        simp only [put2] at h
        obtain ⟨T3, hlay, h⟩ := Option.bind_eq_some_iff.1 h
        simp only [Option.some.injEq, Prod.mk.injEq] at h
        obtain ⟨rfl, rfl, rfl, rfl⟩ := h
        exact yput_add base b u0 u1 T T3 E live hash key val p q w hD hf (by omega) hs hb0 c6 c5 c3 c7 c8 c1 c2 hlay
  · simp at h

end Go.Proofs.Ytohilfkdfcihgaa.PDi
