/- What DictPut comes to: by hand over the contracts of DictOk, ycopyDict and yput. No condition beyond those of the theorems. -/
import Derived.Test.YtohilfkdfcihgaaGYre
import Derived.Test.YtohilfkdfcihgaaGCopy
namespace Go.Proofs.Ytohilfkdfcihgaa.PDi
open Go.RowKit Go.Proofs.YtohilfkdfcihgaaW.PrintWords Go.Proofs.YtohilfkdfcihgaaW.PrintLast Go.Proofs.YtohilfkdfcihgaaW.PrintMore
attribute [local go_sem] max2_int min2_int max_two min_two max_three min_three max_four min_four
set_option linter.unusedVariables false
set_option linter.unusedSimpArgs false
theorem copy_some (T : List Int) (E : List S62) (live : Int) (hT : T.length ≤ 1000000) (hE : E.length ≤ 1000000) : impl_ycopyDict.f T E live = some (T, E, live) := by
  unfold impl_ycopyDict.f
  simp only [Option.bind_some, List.nil_append, List.length_nil, Nat.zero_add]
  rw [if_pos (by omega), if_pos (by omega)]
theorem Only.below {w0 w w' : World} {base b : Nat} {u0 u1 : Value} {T : List Int} {E : List S62} {live : Int} (hb : Below w0.heap.size w0 w) (h : Only w w' b u0 u1) (hD : DAt w base b u0 u1 T E live) (hbase : w0.heap.size ≤ base) (hbb : w0.heap.size ≤ b) : Below w0.heap.size w0 w' :=
  ⟨h.os.trans hb.os, h.tape.trans hb.tape, h.output.trans hb.output, Nat.le_trans hb.size h.size, fun k hk => (h.block k (Nat.lt_of_lt_of_le hk hb.size) (by omega) (fun e => by have := Kd.R_base hD.sl k e.symm; omega) (fun e => by have := Kd.R_base hD.en k e.symm; omega)).trans (hb.block k hk)⟩
theorem two_at {w w1 : World} {x y : Array Value} {t t' : TypeId} (hb : Below ((w.alloc (.cells x t)).alloc (.cells y t')).heap.size ((w.alloc (.cells x t)).alloc (.cells y t')) w1) :
    w1.heap[w.heap.size]? = some (.cells x t (0, 0)) ∧ w1.heap[w.heap.size + 1]? = some (.cells y t' (0, 0)) := by
  constructor
  · rw [hb.block w.heap.size (by simp; omega), Below.heap_alloc _ _ _ (by simp)]
    exact heap_alloc_new _ _
  · rw [hb.block (w.heap.size + 1) (by simp)]
    have := heap_alloc_new (w.alloc (.cells x t)) (.cells y t')
    simpa using this
def impl_DictPut.f (T : List Int) (E : List S62) (live hash key val : Int) : Option (List Int × List S62 × Int × Bool) :=
  (impl_DictOk.f T E live).bind fun ok => if ok = true then (if T.length ≤ 1000000 ∧ E.length ≤ 1000000 then yputM T E live hash key val else none) else some ([], [], 0, false)
set_option maxHeartbeats 1000000 in
set_option maxRecDepth 100000 in
theorem impl_DictPut.calls (A0_0 : Option Addr) (c0_0 : Nat) (l0_0 : List Int) (A0_1 : Option Addr) (c0_1 : Nat) (l0_1 : List (S62)) (a0_2 : Int) (a1 : Int) (a2 : Int) (a3 : Int) (r1 : List Int) (r2 : List (S62)) (r3 : Int) (r4 : Bool) (w : World) (hr0_0 : Kd.C (Kd.int .i64) w A0_0 l0_0.length l0_0) (hc0_0 : l0_0.length ≤ c0_0) (hr0_1 : Kd.C k62 w A0_1 l0_1.length l0_1) (hc0_1 : l0_1.length ≤ c0_1) (h : impl_DictPut.f l0_0 l0_1 a0_2 a1 a2 a3 = some (r1, r2, r3, r4)) :
    Calls Try.prog 36 #[.agg #[.slice A0_0 l0_0.length c0_0, .slice A0_1 l0_1.length c0_1, .int .i64 a0_2], .int .u64 a1, .int .i64 a2, .int .i64 a3] w fun e w' => ∃ v0_ v1_ : Value, e = .returned (.tuple #[.agg #[v0_, v1_, .int .i64 r3], .bool r4]) ∧ Kd.R (Kd.int .i64) 2 w' w.heap.size (fun _ => True) v0_ r1 ∧ Kd.R k62 62 w' w.heap.size (fun _ => True) v1_ r2 ∧ Below w.heap.size w w' := by
  unfold impl_DictPut.f at h
  · obtain ⟨ok, hok, h⟩ := Option.bind_eq_some_iff.1 h
    have HOK := Aside0.mk hok
    have HR0 := Aside0.mk hr0_0
    have HR1 := Aside0.mk hr0_1
    clear hok hr0_0 hr0_1
    cases ok with
    | false =>
      simp only [if_neg (show ¬ (false = true) by decide), Option.some.injEq, Prod.mk.injEq] at h
      obtain ⟨rfl, rfl, rfl, rfl⟩ := h
      go_enter Try.func36, Try.ntmps36
      go_wp2_with fail
      have hB := below_alloc (below_alloc (Below.refl w.heap.size w) (.cells #[.slice A0_0 l0_0.length c0_0, .slice A0_1 l0_1.length c0_1, .int .i64 a0_2] 25)) (.cells #[.slice none 0 0, .slice none 0 0, .int .i64 0] 25)
      refine (impl_DictOk.calls A0_0 c0_0 l0_0 A0_1 c0_1 l0_1 a0_2 false _ (Kd.C_below HR0.out hB) hc0_0 (Kd.C_below HR1.out hB) hc0_1 HOK.out).mono ?_
      rintro e w1 ⟨rfl, hb⟩
      have k8 := two_at hb
      have HB := Aside0.mk (below_step hB hb)
      have c0 : w1.cell? ⟨w.heap.size + 1, 0, none⟩ = some (.slice none 0 0) := (blk_cell k8.2 0).trans rfl
      have c1 : w1.cell? ⟨w.heap.size + 1, 1, none⟩ = some (.slice none 0 0) := (blk_cell k8.2 1).trans rfl
      have c2 : w1.cell? ⟨w.heap.size + 1, 2, none⟩ = some (.int .i64 0) := (blk_cell k8.2 2).trans rfl
      have z0 : w1.frozen? ⟨w.heap.size + 1, 0, none⟩ = false := blk_frozen k8.2 0
      have z1 : w1.frozen? ⟨w.heap.size + 1, 1, none⟩ = false := blk_frozen k8.2 1
      have z2 : w1.frozen? ⟨w.heap.size + 1, 2, none⟩ = false := blk_frozen k8.2 2
      have HK8 := Aside0.mk k8.2
      clear hb hB k8 h HOK
      go_wp2
      refine bodyPost_ret (results_ct rfl _ _ (w.heap.size + 1) 25 #[.slice none 0 0, .slice none 0 0, .int .i64 0] (0, 0) _ rfl (blk_put (blk_put (blk_put HK8.out 0 _ rfl) 1 _ rfl) 2 _ rfl) Try.underlying25 rfl (by kernel_rfl)) rfl ?_
      exact ⟨_, _, rfl, Kd.R_nil _ _ _ _ _, Kd.R_nil _ _ _ _ _, below_set (below_set (below_set HB.out (by simp)) (by simp)) (by simp)⟩
    | true =>
      rw [if_pos rfl] at h
      split at h
      case isFalse => simp at h
      rename_i hlen
      have HLT := Aside0.mk hlen.1
      have HLE := Aside0.mk hlen.2
      clear hlen
      have HY := Aside0.mk h
      have HCP := Aside0.mk (copy_some l0_0 l0_1 a0_2 HLT.out HLE.out)
      clear h
      go_enter Try.func36, Try.ntmps36
      go_wp2_with fail
      have hB := below_alloc (below_alloc (Below.refl w.heap.size w) (.cells #[.slice A0_0 l0_0.length c0_0, .slice A0_1 l0_1.length c0_1, .int .i64 a0_2] 25)) (.cells #[.slice none 0 0, .slice none 0 0, .int .i64 0] 25)
      refine (impl_DictOk.calls A0_0 c0_0 l0_0 A0_1 c0_1 l0_1 a0_2 true _ (Kd.C_below HR0.out hB) hc0_0 (Kd.C_below HR1.out hB) hc0_1 HOK.out).mono ?_
      rintro e w1 ⟨rfl, hb⟩
      have k8 := two_at hb
      have HB := Aside0.mk (below_step hB hb)
      have HK4 := Aside0.mk k8.1
      have HK8 := Aside0.mk k8.2
      have d0 : w1.cell? ⟨w.heap.size, 0, none⟩ = some (.slice A0_0 l0_0.length c0_0) := (blk_cell k8.1 0).trans rfl
      have d1 : w1.cell? ⟨w.heap.size, 1, none⟩ = some (.slice A0_1 l0_1.length c0_1) := (blk_cell k8.1 1).trans rfl
      have d2 : w1.cell? ⟨w.heap.size, 2, none⟩ = some (.int .i64 a0_2) := (blk_cell k8.1 2).trans rfl
      clear hb hB k8 HOK
      go_wp2_with fail
      refine (impl_ycopyDict.calls A0_0 c0_0 l0_0 A0_1 c0_1 l0_1 a0_2 l0_0 l0_1 a0_2 w1 (Kd.C_below HR0.out HB.out) hc0_0 (Kd.C_below HR1.out HB.out) hc0_1 HCP.out).mono ?_
      rintro e w2 ⟨v0, v1, rfl, hs, he, hb2⟩
      obtain ⟨B0, b0, rfl⟩ := Kd.R_slice hs
      obtain ⟨B1, b1, rfl⟩ := Kd.R_slice he
      have hk4 := (hb2.block _ (lt_of_block HK4.out)).trans HK4.out
      have hk8 := (hb2.block _ (lt_of_block HK8.out)).trans HK8.out
      have HB2 := Aside0.mk (below_step HB.out hb2)
      have HS := Aside0.mk (Kd.R_lower hs HB.out.size)
      have HE := Aside0.mk (Kd.R_lower he HB.out.size)
      clear d0 d1 d2 hs he hb2 HK4 HK8 HB HCP HR0 HR1
      have d0 : w2.cell? ⟨w.heap.size, 0, none⟩ = some (.slice A0_0 l0_0.length c0_0) := (blk_cell hk4 0).trans rfl
      have d1 : w2.cell? ⟨w.heap.size, 1, none⟩ = some (.slice A0_1 l0_1.length c0_1) := (blk_cell hk4 1).trans rfl
      have d2 : w2.cell? ⟨w.heap.size, 2, none⟩ = some (.int .i64 a0_2) := (blk_cell hk4 2).trans rfl
      have z0 : w2.frozen? ⟨w.heap.size, 0, none⟩ = false := blk_frozen hk4 0
      have z1 : w2.frozen? ⟨w.heap.size, 1, none⟩ = false := blk_frozen hk4 1
      have z2 : w2.frozen? ⟨w.heap.size, 2, none⟩ = false := blk_frozen hk4 2
      have hp1 : (w2.setCell ⟨w.heap.size, 0, none⟩ (.slice B0 l0_0.length b0)).heap[w.heap.size]? = some (.cells #[.slice B0 l0_0.length b0, .slice A0_1 l0_1.length c0_1, .int .i64 a0_2] 25 (0, 0)) := blk_put hk4 0 _ rfl
      have hp2 : ((w2.setCell ⟨w.heap.size, 0, none⟩ (.slice B0 l0_0.length b0)).setCell ⟨w.heap.size, 1, none⟩ (.slice B1 l0_1.length b1)).heap[w.heap.size]? = some (.cells #[.slice B0 l0_0.length b0, .slice B1 l0_1.length b1, .int .i64 a0_2] 25 (0, 0)) := blk_put hp1 1 _ rfl
      have HD : Aside0 (DAt (((w2.setCell ⟨w.heap.size, 0, none⟩ (.slice B0 l0_0.length b0)).setCell ⟨w.heap.size, 1, none⟩ (.slice B1 l0_1.length b1)).setCell ⟨w.heap.size, 2, none⟩ (.int .i64 a0_2)) w.heap.size w.heap.size (.slice B0 l0_0.length b0) (.slice B1 l0_1.length b1) l0_0 l0_1 a0_2) :=
        ⟨⟨blk_put hp2 2 _ rfl, Kd.R_set (Kd.R_set (Kd.R_set HS.out hk4 (by decide) 0 _) hp1 (by decide) 1 _) hp2 (by decide) 2 _, Kd.R_set (Kd.R_set (Kd.R_set HE.out hk4 (by decide) 0 _) hp1 (by decide) 1 _) hp2 (by decide) 2 _⟩⟩
      have hk8' : (((w2.setCell ⟨w.heap.size, 0, none⟩ (.slice B0 l0_0.length b0)).setCell ⟨w.heap.size, 1, none⟩ (.slice B1 l0_1.length b1)).setCell ⟨w.heap.size, 2, none⟩ (.int .i64 a0_2)).heap[w.heap.size + 1]? = some (.cells #[.slice none 0 0, .slice none 0 0, .int .i64 0] 25 (0, 0)) := by
        rw [Below.heap_setCell _ _ _ _ (by simp), Below.heap_setCell _ _ _ _ (by simp), Below.heap_setCell _ _ _ _ (by simp)]
        exact hk8
      have HK8 := Aside0.mk hk8'
      have HB3 := Aside0.mk (below_set (j := 2) (v := .int .i64 a0_2) (below_set (j := 1) (v := .slice B1 l0_1.length b1) (below_set (j := 0) (v := .slice B0 l0_0.length b0) HB2.out (Nat.le_refl _)) (Nat.le_refl _)) (Nat.le_refl _))
      clear hk4 hk8 hk8' hp1 hp2 HB2 HS HE
      go_wp2_with fail
      clear d0 d1 d2 z0 z1 z2
      generalize ((w2.setCell ⟨w.heap.size, 0, none⟩ (.slice B0 l0_0.length b0)).setCell ⟨w.heap.size, 1, none⟩ (.slice B1 l0_1.length b1)).setCell ⟨w.heap.size, 2, none⟩ (.int .i64 a0_2) = w3 at *
      refine (yput_calls w.heap.size w.heap.size _ _ l0_0 r1 l0_1 r2 a0_2 r3 a1 a2 a3 r4 w3 HD.out HB3.out.size HY.out).mono ?_
      rintro e w4 ⟨rfl, x0, x1, hD4, hO, o0, o1⟩
      have hk8 := (hO.block (w.heap.size + 1) (lt_of_block HK8.out) (by omega) (Kd.R_ne HD.out.sl HK8.out (by decide)) (Kd.R_ne HD.out.en HK8.out (by decide))).trans HK8.out
      have HB4 := Aside0.mk (Only.below HB3.out hO HD.out (Nat.le_refl _) (Nat.le_refl _))
      have HD4 := Aside0.mk hD4
      clear HK8 HB3 HD hO o0 o1
      obtain ⟨C0, f0, rfl⟩ := Kd.R_slice hD4.sl
      obtain ⟨C1, f1, rfl⟩ := Kd.R_slice hD4.en
      have d0 : w4.cell? ⟨w.heap.size, 0, none⟩ = some (.slice C0 r1.length f0) := (blk_cell hD4.blk 0).trans rfl
      have d1 : w4.cell? ⟨w.heap.size, 1, none⟩ = some (.slice C1 r2.length f1) := (blk_cell hD4.blk 1).trans rfl
      have d2 : w4.cell? ⟨w.heap.size, 2, none⟩ = some (.int .i64 r3) := (blk_cell hD4.blk 2).trans rfl
      have y0 : w4.cell? ⟨w.heap.size + 1, 0, none⟩ = some (.slice none 0 0) := (blk_cell hk8 0).trans rfl
      have y1 : w4.cell? ⟨w.heap.size + 1, 1, none⟩ = some (.slice none 0 0) := (blk_cell hk8 1).trans rfl
      have y2 : w4.cell? ⟨w.heap.size + 1, 2, none⟩ = some (.int .i64 0) := (blk_cell hk8 2).trans rfl
      have z0 : w4.frozen? ⟨w.heap.size + 1, 0, none⟩ = false := blk_frozen hk8 0
      have z1 : w4.frozen? ⟨w.heap.size + 1, 1, none⟩ = false := blk_frozen hk8 1
      have z2 : w4.frozen? ⟨w.heap.size + 1, 2, none⟩ = false := blk_frozen hk8 2
      have HK8 := Aside0.mk hk8
      have HF : Aside0 (∀ (v0 v1 v2 : Value), Kd.R (Kd.int .i64) 2 (((w4.setCell ⟨w.heap.size + 1, 0, none⟩ v0).setCell ⟨w.heap.size + 1, 1, none⟩ v1).setCell ⟨w.heap.size + 1, 2, none⟩ v2) w.heap.size (fun _ => True) (.slice C0 r1.length f0) r1 ∧
          Kd.R k62 62 (((w4.setCell ⟨w.heap.size + 1, 0, none⟩ v0).setCell ⟨w.heap.size + 1, 1, none⟩ v1).setCell ⟨w.heap.size + 1, 2, none⟩ v2) w.heap.size (fun _ => True) (.slice C1 r2.length f1) r2) :=
        ⟨fun v0 v1 v2 => ⟨Kd.R_set (Kd.R_set (Kd.R_set hD4.sl hk8 (by decide) 0 _) (blk_put hk8 0 _ rfl) (by decide) 1 _) (blk_put (blk_put hk8 0 _ rfl) 1 _ rfl) (by decide) 2 _, Kd.R_set (Kd.R_set (Kd.R_set hD4.en hk8 (by decide) 0 _) (blk_put hk8 0 _ rfl) (by decide) 1 _) (blk_put (blk_put hk8 0 _ rfl) 1 _ rfl) (by decide) 2 _⟩⟩
      clear hD4 hk8 HD4 HY
      go_wp2
      refine bodyPost_ret (results_ct rfl _ _ (w.heap.size + 1) 25 #[.slice C0 r1.length f0, .slice C1 r2.length f1, .int .i64 r3] (0, 0) _ rfl (blk_put (blk_put (blk_put HK8.out 0 _ rfl) 1 _ rfl) 2 _ rfl) Try.underlying25 rfl (by kernel_rfl)) rfl ?_
      exact ⟨_, _, rfl, (HF.out _ _ _).1, (HF.out _ _ _).2, below_set (below_set (below_set HB4.out (by simp)) (by simp)) (by simp)⟩
end Go.Proofs.Ytohilfkdfcihgaa.PDi
