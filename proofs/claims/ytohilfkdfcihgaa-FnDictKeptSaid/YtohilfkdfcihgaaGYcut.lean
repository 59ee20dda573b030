/- What ycut comes to: by hand over the contract of yfind. No condition beyond those of the theorems. -/
import Derived.Test.YtohilfkdfcihgaaGYput
namespace Go.Proofs.Ytohilfkdfcihgaa.PDi
open Go.RowKit Go.Proofs.YtohilfkdfcihgaaW.PrintWords Go.Proofs.YtohilfkdfcihgaaW.PrintLast Go.Proofs.YtohilfkdfcihgaaW.PrintMore
attribute [local go_sem] max2_int min2_int max_two min_two max_three min_three max_four min_four
set_option linter.unusedVariables false
set_option linter.unusedSimpArgs false
def ycutM (T : List Int) (E : List S62) (live hash key : Int) : Option (List Int × List S62 × Int × Bool) :=
  if 0 ≤ live ∧ live ≤ 1000000 then
    (impl_yfind.f T E live hash key).bind fun pr =>
      if 0 ≤ pr.1 then (if pr.1 < E.length then some (T, E.set pr.1.toNat ⟨hash, 0, 0, true⟩, live - 1, true) else none) else some (T, E, live, false)
  else none
theorem cut_done {w ws : World} {base b : Nat} {u0 u1 : Value} {T : List Int} {E E' : List S62} {live l' : Int} (h : DAt w base b u0 u1 T E live) (hr : Kd.R k62 62 ws base (fun _ => True) u1 E') (hg : w.grownBy ws u1.ownBlock) :
    DAt (ws.setCell ⟨b, 2, none⟩ (.int .i64 l')) base b u0 u1 T E' l' ∧ Only w (ws.setCell ⟨b, 2, none⟩ (.int .i64 l')) b u0 u1 := by
  have hbk := (hg.block b (lt_of_block h.blk) h.ne1).trans h.blk
  exact ⟨⟨blk_put hbk 2 _ rfl, Kd.R_set (Kd.R_over h.sl h.en (by decide) hg) hbk (by decide) 2 _, Kd.R_set hr hbk (by decide) 2 _⟩, (Only.grown1 (u0 := u0) hg).trans (Only.cell (u0 := u0) (u1 := u1) 2 _) Of.rfl Of.rfl⟩
set_option maxHeartbeats 1000000 in
set_option maxRecDepth 100000 in
theorem ycut_found (base b : Nat) (u0 u1 : Value) (T : List Int) (E : List S62) (live hash key p q : Int) (w : World) (hD : DAt w base b u0 u1 T E live) (hf : impl_yfind.f T E live hash key = some (p, q)) (hp : 0 ≤ p) (hpe : p < E.length) (hl0 : 0 ≤ live) (hl1 : live ≤ 1000000) :
    Calls Try.prog 51 #[.pointer (some ⟨b, 0, none⟩), .int .u64 hash, .int .i64 key] w
      (Left w base b u0 u1 T (E.set p.toNat ⟨hash, 0, 0, true⟩) (live - 1) true) := by
  obtain ⟨A0, c0, rfl, hc0, hC0⟩ := Kd.R_reads hD.sl
  obtain ⟨A1, c1, rfl, hc1, hC1⟩ := Kd.R_reads hD.en
  have d0 : w.cell? ⟨b, 0, none⟩ = some (.slice A0 T.length c0) := (blk_cell hD.blk 0).trans rfl
  have d1 : w.cell? ⟨b, 1, none⟩ = some (.slice A1 E.length c1) := (blk_cell hD.blk 1).trans rfl
  have d2 : w.cell? ⟨b, 2, none⟩ = some (.int .i64 live) := (blk_cell hD.blk 2).trans rfl
  have HF := Aside0.mk hf
  have HD := Aside0.mk hD
  have HC0 := Aside0.mk hC0
  have HC1 := Aside0.mk hC1
  clear hD hC0 hC1 hf
  generalize hN : T.length = n at *
  have HN := Aside0.mk hN
  generalize hM : E.length = m at *
  have HM := Aside0.mk hM
  clear hN hM
  go_enter Try.func51, Try.ntmps51
  go_wp2_with fail
  have hyf := impl_yfind.calls A0 c0 T A1 c1 E live hash key p q w (by rw [HN.out]; exact HC0.out) (by rw [HN.out]; exact hc0) (by rw [HM.out]; exact HC1.out) (by rw [HM.out]; exact hc1) HF.out
  rw [HN.out, HM.out] at hyf
  refine hyf.mono ?_
  rintro e w1 ⟨rfl, hb⟩
  have HB := Aside0.mk hb
  have HD1 := Aside0.mk (HD.out.below hb)
  have e0 := pw_cell_below hb d0
  have e1 := pw_cell_below hb d1
  have e2 := pw_cell_below hb d2
  clear hyf hb d0 d1 d2
  have hm0 : 0 < E.length := by rw [HM.out]; omega
  obtain ⟨g, cap, hg0, hg1, hg2, hg3⟩ := Kd.R_form HD1.out.en hm0
  rw [HM.out] at hg0
  injection hg0 with hg0a _ hg0b
  subst hg0a hg0b
  obtain ⟨c, hcl, hM4, hcc, hfz⟩ := Kd.R_elem HD1.out.en z62 p hp hpe
  have hcs := k62_openM hM4
  have x0 : w1.cell? ⟨g, p.toNat * 4, none⟩ = some (.int .u64 (rd_T62 E p).f0) := hcc 0 _ (by rw [hcs]; rfl)
  have x1 : w1.cell? ⟨g, p.toNat * 4 + 1, none⟩ = some (.int .i64 (rd_T62 E p).f1) := hcc 1 _ (by rw [hcs]; rfl)
  have x2 : w1.cell? ⟨g, p.toNat * 4 + 2, none⟩ = some (.int .i64 (rd_T62 E p).f2) := hcc 2 _ (by rw [hcs]; rfl)
  have x3 : w1.cell? ⟨g, p.toNat * 4 + 3, none⟩ = some (.bool (rd_T62 E p).f3) := hcc 3 _ (by rw [hcs]; rfl)
  have z0 : w1.frozen? ⟨g, p.toNat * 4, none⟩ = false := hfz 0
  have z1 : w1.frozen? ⟨g, p.toNat * 4 + 1, none⟩ = false := hfz 1
  have z2 : w1.frozen? ⟨g, p.toNat * 4 + 2, none⟩ = false := hfz 2
  have z3 : w1.frozen? ⟨g, p.toNat * 4 + 3, none⟩ = false := hfz 3
  obtain ⟨hR', hG'⟩ := Kd.R_seg HD1.out.en p hp hpe (j := 0) (seg := [.int .u64 hash, .int .i64 0, .int .i64 0, .bool true]) (x' := ⟨hash, 0, 0, true⟩) (okp := fun _ => False) hcl hcc (show 0 + 4 ≤ 4 by omega) (by
    rw [hcs]
    exact k62_mkM _ _ _ (⟨hash, 0, 0, true⟩ : S62)) (fun _ hk => hk.elim)
  have HR' := Aside0.mk hR'
  have HG' := Aside0.mk hG'
  have hbg : b ≠ g := fun e => HD1.out.ne1 (by rw [e]; rfl)
  have z9 : w1.frozen? ⟨b, 2, none⟩ = false := blk_frozen HD1.out.blk 2
  clear hR' hG' hcc hfz hM4 hcs hcl hg3
  go_wp2
  go_ret
  obtain ⟨q1, q2⟩ := cut_done (l' := live - 1) HD1.out HR'.out HG'.out
  exact ⟨rfl, _, _, q1, (Only.of_below HB.out).trans q2 Of.rfl Of.rfl, Of.rfl, Of.rfl⟩
set_option maxHeartbeats 1000000 in
set_option maxRecDepth 100000 in
theorem ycut_none (base b : Nat) (u0 u1 : Value) (T : List Int) (E : List S62) (live hash key p q : Int) (w : World) (hD : DAt w base b u0 u1 T E live) (hf : impl_yfind.f T E live hash key = some (p, q)) (hp : p < 0) :
    Calls Try.prog 51 #[.pointer (some ⟨b, 0, none⟩), .int .u64 hash, .int .i64 key] w
      (Left w base b u0 u1 T E live false) := by
  obtain ⟨A0, c0, rfl, hc0, hC0⟩ := Kd.R_reads hD.sl
  obtain ⟨A1, c1, rfl, hc1, hC1⟩ := Kd.R_reads hD.en
  have d0 : w.cell? ⟨b, 0, none⟩ = some (.slice A0 T.length c0) := (blk_cell hD.blk 0).trans rfl
  have d1 : w.cell? ⟨b, 1, none⟩ = some (.slice A1 E.length c1) := (blk_cell hD.blk 1).trans rfl
  have d2 : w.cell? ⟨b, 2, none⟩ = some (.int .i64 live) := (blk_cell hD.blk 2).trans rfl
  have HF := Aside0.mk hf
  have HD := Aside0.mk hD
  have HC0 := Aside0.mk hC0
  have HC1 := Aside0.mk hC1
  clear hD hC0 hC1 hf
  generalize hN : T.length = n at *
  have HN := Aside0.mk hN
  generalize hM : E.length = m at *
  have HM := Aside0.mk hM
  clear hN hM
  go_enter Try.func51, Try.ntmps51
  go_wp2_with fail
  have hyf := impl_yfind.calls A0 c0 T A1 c1 E live hash key p q w (by rw [HN.out]; exact HC0.out) (by rw [HN.out]; exact hc0) (by rw [HM.out]; exact HC1.out) (by rw [HM.out]; exact hc1) HF.out
  rw [HN.out, HM.out] at hyf
  refine hyf.mono ?_
  rintro e w1 ⟨rfl, hb⟩
  have HB := Aside0.mk hb
  have HD1 := Aside0.mk (HD.out.below hb)
  clear hyf hb d0 d1 d2
  go_wp2
  go_ret
  exact ⟨rfl, _, _, HD1.out, Only.of_below HB.out, Of.rfl, Of.rfl⟩
theorem ycut_calls (base b : Nat) (u0 u1 : Value) (T T' : List Int) (E E' : List S62) (live live' hash key : Int) (r : Bool) (w : World) (hD : DAt w base b u0 u1 T E live) (h : ycutM T E live hash key = some (T', E', live', r)) :
    Calls Try.prog 51 #[.pointer (some ⟨b, 0, none⟩), .int .u64 hash, .int .i64 key] w (Left w base b u0 u1 T' E' live' r) := by
  unfold ycutM at h
  split at h
  · rename_i hc
    obtain ⟨⟨p, q⟩, hf, h⟩ := Option.bind_eq_some_iff.1 h
    simp only at h
    by_cases hp : 0 ≤ p
    · rw [if_pos hp] at h
      by_cases hpe : p < E.length
      · rw [if_pos hpe] at h
        simp only [Option.some.injEq, Prod.mk.injEq] at h
        obtain ⟨rfl, rfl, rfl, rfl⟩ := h
        exact ycut_found base b u0 u1 T E live hash key p q w hD hf hp hpe hc.1 hc.2
      · rw [if_neg hpe] at h
        simp at h
    · rw [if_neg hp] at h
      simp only [Option.some.injEq, Prod.mk.injEq] at h
      obtain ⟨rfl, rfl, rfl, rfl⟩ := h
      exact ycut_none base b u0 u1 T E live hash key p q w hD hf (by omega)
  · simp at h
end Go.Proofs.Ytohilfkdfcihgaa.PDi
