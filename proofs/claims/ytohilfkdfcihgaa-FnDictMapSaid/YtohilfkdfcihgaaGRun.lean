/- What DictRun comes to: by hand over the contracts of NewDict, yput, yfind, ycut and its closure. No condition beyond those of the theorems. -/
import Derived.Test.YtohilfkdfcihgaaGRunA
namespace Go.Proofs.Ytohilfkdfcihgaa.PDi
open Go.RowKit Go.Proofs.YtohilfkdfcihgaaW.PrintWords Go.Proofs.YtohilfkdfcihgaaW.PrintLast Go.Proofs.YtohilfkdfcihgaaW.PrintMore
attribute [local go_sem] max2_int min2_int max_two min_two max_three min_three max_four min_four
set_option linter.unusedVariables false
set_option linter.unusedSimpArgs false

theorem two_at1 {w w1 : World} {x y : Array Value} {t t' : TypeId} (hb : Below ((w.alloc (.cells x t)).alloc (.cells y t')).heap.size ((w.alloc (.cells x t)).alloc (.cells y t')) w1) :
    w1.heap[w.heap.size]? = some (.cells x t (0, 0)) ∧ w1.heap[w.heap.size + 1]? = some (.cells y t' (0, 0)) := by
  constructor
  · rw [hb.block w.heap.size (by simp; omega), Below.heap_alloc _ _ _ (by simp)]
    exact heap_alloc_new _ _
  · rw [hb.block (w.heap.size + 1) (by simp)]
    have := heap_alloc_new (w.alloc (.cells x t)) (.cells y t')
    simpa using this

theorem Only.below1 {w0 w w' : World} {base b : Nat} {u0 u1 : Value} {T : List Int} {E : List S62} {live : Int} (hb : Below w0.heap.size w0 w) (h : Only w w' b u0 u1) (hD : DAt w base b u0 u1 T E live) (hbase : w0.heap.size ≤ base) (hbb : w0.heap.size ≤ b) : Below w0.heap.size w0 w' :=
  ⟨h.os.trans hb.os, h.tape.trans hb.tape, h.output.trans hb.output, Nat.le_trans hb.size h.size, fun k hk => (h.block k (Nat.lt_of_lt_of_le hk hb.size) (by omega) (fun e => by have := Kd.R_base hD.sl k e.symm; omega) (fun e => by have := Kd.R_base hD.en k e.symm; omega)).trans (hb.block k hk)⟩

def runOp (o : S37) (T : List Int) (E : List S62) (live : Int) : Option (List Int × List S62 × Int × Int) :=
  if o.f0 = 1 then (yputM T E live o.f1 o.f2 o.f3).bind fun r => some (r.1, r.2.1, r.2.2.1, ans r.2.2.2)
  else if o.f0 = 2 then (impl_yfind.f T E live o.f1 o.f2).bind fun p => if 0 ≤ p.1 then (if p.1 < E.length then some (T, E, live, (rd_T62 E p.1).f2) else none) else some (T, E, live, -1)
  else if o.f0 = 3 then (ycutM T E live o.f1 o.f2).bind fun r => some (r.1, r.2.1, r.2.2.1, ans r.2.2.2)
  else if o.f0 = 4 then (impl_yfind.f T E live o.f1 o.f2).bind fun p => some (T, E, live, p.2)
  else if o.f0 = 5 then some (T, E, live, (T.length : Int))
  else some (T, E, live, -2)

def runAll : List S37 → List Int → List S62 → Int → List Int → Option (List Int)
  | [], _, _, _, O => some O
  | o :: r, T, E, live, O => (runOp o T E live).bind fun x => runAll r x.1 x.2.1 x.2.2.1 (O ++ [x.2.2.2])

def impl_DictRun.f (l : List S37) : Option (List Int) := if 5000 < l.length then some [] else runAll l (List.replicate 8 (-1)) [] 0 []

set_option maxHeartbeats 4000000 in
set_option maxRecDepth 100000 in
theorem impl_DictRun.calls (A0 : Option Addr) (c0 : Nat) (l0 : List S37) (r : List Int) (w : World) (hr0 : Kd.C k37 w A0 l0.length l0) (hc0 : l0.length ≤ c0) (h : impl_DictRun.f l0 = some r) :
    Calls Try.prog 18 #[.slice A0 l0.length c0] w fun e w' => ∃ v0_ : Value, e = .returned (v0_) ∧ Kd.R (Kd.int .i64) 2 w' w.heap.size (fun _ => True) v0_ r ∧ Below w.heap.size w w' := by
  unfold impl_DictRun.f at h
  have hmf : ∀ (fn : Fn) (first cap : Array Value) (w : World), (Instr.makeFunc fn first cap).run Try.prog w = .ok (.func fn first cap) w := fun _ _ _ _ => rfl
  by_cases hl : 5000 < l0.length
  · rw [if_pos hl] at h
    obtain rfl := Option.some.inj h
    generalize hN : l0.length = n at *
    have HN := Aside0.mk hN
    clear hN hr0
    go_enter Try.func18, Try.ntmps18
    go_wp2
    go_ret
    exact ⟨_, rfl, Kd.R_nil _ _ _ _ _, Below.refl _ _⟩
  · rw [if_neg hl] at h
    have HR := Aside0.mk hr0
    have HA := Aside0.mk h
    clear hr0 h
    generalize hN : l0.length = n at *
    have HN := Aside0.mk hN
    clear hN
    have HND := Aside0.mk (show impl_NewDict.f 9 = some (List.replicate 8 (-1), [], 0) by
      unfold impl_NewDict.f
      rw [show (8 : Int) = ((8 : Nat) : Int) from rfl, yempty_some 8 9 (by omega) (by omega)]
      rfl)
    go_enter Try.func18, Try.ntmps18
    go_wp2_with fail
    refine (impl_NewDict.calls 9 _ _ _ _ HND.out).mono ?_
    rintro e w1 ⟨u0, u1, rfl, hu0, hu1, hb⟩
    obtain ⟨B0, b0, rfl⟩ := Kd.R_slice hu0
    obtain ⟨B1, b1, rfl⟩ := Kd.R_slice hu1
    have HB := Aside0.mk hb
    have HU0 := Aside0.mk hu0
    have HU1 := Aside0.mk hu1
    clear hu0 hu1 hb HND
    go_wp2_with fail
    have hk := two_at1 (x := #[.slice B0 (List.replicate 8 (-1) : List Int).length b0, .slice B1 ([] : List S62).length b1, .int .i64 0]) (y := #[.slice none 0 0]) (t := 25) (t' := 22) (w := w1) (w1 := (w1.alloc (.cells #[.slice B0 (List.replicate 8 (-1) : List Int).length b0, .slice B1 ([] : List S62).length b1, .int .i64 0] 25)).alloc (.cells #[.slice none 0 0] 22)) (Below.refl _ _)
    have hRA : RAt ((w1.alloc (.cells #[.slice B0 (List.replicate 8 (-1) : List Int).length b0, .slice B1 ([] : List S62).length b1, .int .i64 0] 25)).alloc (.cells #[.slice none 0 0] 22)) w.heap.size w1.heap.size (w1.heap.size + 1) (.slice B0 (List.replicate 8 (-1) : List Int).length b0) (.slice B1 ([] : List S62).length b1) (.slice none 0 0) (List.replicate 8 (-1)) [] 0 [] :=
      ⟨⟨hk.1, Kd.R_alloc (Kd.R_alloc HU0.out _) _, Kd.R_alloc (Kd.R_alloc HU1.out _) _⟩, hk.2, Kd.R_nil _ _ _ _ _⟩
    have HX := Aside0.mk hRA
    have HBX := Aside0.mk (below_alloc (below_alloc HB.out (.cells #[.slice B0 (List.replicate 8 (-1) : List Int).length b0, .slice B1 ([] : List S62).length b1, .int .i64 0] 25)) (.cells #[.slice none 0 0] 22))
    have hbd : w.heap.size ≤ w1.heap.size := HB.out.size
    clear hk hRA HU0 HU1 HB
    go_loopg [20] n (fun kq v20 w' => ∃ (i : Nat) (T : List Int) (E : List S62) (live : Int) (O : List Int) (u0 u1 vo : Value), v20 = .int .i64 i ∧ i + kq = n ∧ Aside0 (runAll (l0.drop i) T E live O = some r) ∧ Aside0 (O.length = i) ∧ Aside0 (RAt w' w.heap.size w1.heap.size (w1.heap.size + 1) u0 u1 vo T E live O) ∧ Aside0 (Below w.heap.size w w'))
    case atStart => exact ⟨0, List.replicate 8 (-1), [], 0, [], _, _, _, rfl, by omega, HA, ⟨rfl⟩, HX, HBX⟩
    case round =>
      clear HA HX HBX
      obtain ⟨i, T, E, live, O, u0, u1, vo, rfl, hik, HA, HO, HX, HB⟩ := hrel
      generalize hbdv : w1.heap.size = bd at *
      by_cases hi : i < n
      · have hC : Kd.C k37 wr A0 n l0 := Kd.C_below HR.out HB.out
        obtain ⟨ad, rfl, x0, x1, x2, x3⟩ := at_T37 hC (i : Int) (by omega) (by omega)
        rw [Int.toNat_natCast] at x0 x1 x2 x3
        clear hC
        have H0 := HA.out
        rw [show l0.drop i = rd_T37 l0 (i : Int) :: l0.drop (i + 1) by
          rw [List.drop_eq_getElem_cons (by rw [HN.out]; exact hi)]
          congr 1
          simp [rd_T37, List.getElem?_eq_getElem (show i < l0.length by rw [HN.out]; exact hi)]] at H0
        clear HA
        generalize rd_T37 l0 (i : Int) = o at *
        simp only [runAll, runOp] at H0
        obtain ⟨kq, rfl⟩ : ∃ q, gk = q + 1 := ⟨gk - 1, by omega⟩
        obtain ⟨A1, c1, rfl, hc1, hC1⟩ := Kd.R_reads HX.out.d.sl
        obtain ⟨A2, c2, rfl, hc2, hC2⟩ := Kd.R_reads HX.out.d.en
        obtain ⟨Ao, co, hvo, hco, hCo⟩ := Kd.R_reads HX.out.out
        rw [HO.out] at hvo
        subst hvo
        clear hco hCo
        have d0 : wr.cell? ⟨bd, 0, none⟩ = some (.slice A1 T.length c1) := (blk_cell HX.out.d.blk 0).trans rfl
        have d1 : wr.cell? ⟨bd, 1, none⟩ = some (.slice A2 E.length c2) := (blk_cell HX.out.d.blk 1).trans rfl
        have d2 : wr.cell? ⟨bd, 2, none⟩ = some (.int .i64 live) := (blk_cell HX.out.d.blk 2).trans rfl
        have g0 : wr.cell? ⟨bd + 1, 0, none⟩ = some (.slice Ao i co) := (blk_cell HX.out.cell 0).trans rfl
        by_cases k1 : o.f0 = 1
        · rw [if_pos k1] at H0
          obtain ⟨x, H1, H2⟩ := Option.bind_eq_some_iff.1 H0
          obtain ⟨⟨T2, E2, live2, b⟩, H3, H4⟩ := Option.bind_eq_some_iff.1 H1
          obtain rfl := Option.some.inj H4
          have HP := Aside0.mk H3
          have HA := Aside0.mk H2
          clear H0 H1 H2 H3 H4
          go_wp2_with fail
          refine (yput_calls w.heap.size bd _ _ T T2 E E2 live live2 o.f1 o.f2 o.f3 b _ (HX.out.d.below (below_alloc (Below.refl _ _) _)) (Nat.le_trans HB.out.size (by simp)) HP.out).mono ?_
          rintro e w2 ⟨rfl, v0, v1, hD2, hO2, o0, o1⟩
          have HX2 := Aside0.mk ((HX.out.below (below_alloc (Below.refl _ _) _)).dict hD2 hO2 o0).1
          have HB2 := Aside0.mk (Only.below1 (below_alloc HB.out _) hO2 (HX.out.d.below (below_alloc (Below.refl _ _) _)) (Nat.le_refl _) hbd)
          clear hD2 hO2 o0 o1 HX HB HP x0 x1 x2 x3 d0 d1 d2 g0
          go_wp2_with fail
          refine (yes_calls w.heap.size bd (bd + 1) v0 v1 (.slice Ao i co) T2 E2 live2 O b w w2 HX2.out HB2.out HB2.out.size (by omega) rfl (by rw [HO.out]; omega)).mono ?_
          rintro e w3 ⟨rfl, v, hX3, hB3, _, _⟩
          have HX3 := Aside0.mk hX3
          have HB3 := Aside0.mk hB3
          clear hX3 hB3 HX2 HB2
          go_wp2
          go_roundg kq
          case measure => omega
          case rel => exact ⟨i + 1, T2, E2, live2, _, v0, v1, v, by first | rfl | simp, by omega, HA, ⟨by rw [List.length_append, HO.out]; rfl⟩, HX3, HB3⟩
        · rw [if_neg k1] at H0
          by_cases k2 : o.f0 = 2
          · rw [if_pos k2] at H0
            clear k1
            obtain ⟨x, H1, H2⟩ := Option.bind_eq_some_iff.1 H0
            obtain ⟨⟨p, q⟩, H3, H4⟩ := Option.bind_eq_some_iff.1 H1
            simp only at H4
            have HP := Aside0.mk H3
            clear H0 H1 H3
            by_cases hp : 0 ≤ p
            · rw [if_pos hp] at H4
              by_cases hpe : p < (E.length : Int)
              · rw [if_pos hpe] at H4
                obtain rfl := Option.some.inj H4
                have HA := Aside0.mk H2
                clear H2 H4
                have HXa := Aside0.mk (HX.out.below (below_alloc (Below.refl _ _) (.cells #[.int .i64 2, .int .u64 o.f1, .int .i64 o.f2, .int .i64 o.f3] 37)))
                have HBa := Aside0.mk (below_alloc HB.out (.cells #[.int .i64 2, .int .u64 o.f1, .int .i64 o.f2, .int .i64 o.f3] 37))
                clear d0 d1 d2 g0
                have d0 : (wr.alloc (.cells #[.int .i64 2, .int .u64 o.f1, .int .i64 o.f2, .int .i64 o.f3] 37)).cell? ⟨bd, 0, none⟩ = some (.slice A1 T.length c1) := (blk_cell HXa.out.d.blk 0).trans rfl
                have d1 : (wr.alloc (.cells #[.int .i64 2, .int .u64 o.f1, .int .i64 o.f2, .int .i64 o.f3] 37)).cell? ⟨bd, 1, none⟩ = some (.slice A2 E.length c2) := (blk_cell HXa.out.d.blk 1).trans rfl
                have d2 : (wr.alloc (.cells #[.int .i64 2, .int .u64 o.f1, .int .i64 o.f2, .int .i64 o.f3] 37)).cell? ⟨bd, 2, none⟩ = some (.int .i64 live) := (blk_cell HXa.out.d.blk 2).trans rfl
                have g0 : (wr.alloc (.cells #[.int .i64 2, .int .u64 o.f1, .int .i64 o.f2, .int .i64 o.f3] 37)).cell? ⟨bd + 1, 0, none⟩ = some (.slice Ao i co) := (blk_cell HXa.out.cell 0).trans rfl
                go_wp2_with fail
                refine (impl_yfind.calls A1 c1 T A2 c2 E live o.f1 o.f2 p q _ (Kd.C_alloc hC1 _) hc1 (Kd.C_alloc hC2 _) hc2 HP.out).mono ?_
                rintro e w2 ⟨rfl, hb⟩
                have HX2 := Aside0.mk (HXa.out.below hb)
                have HB2 := Aside0.mk (below_step HBa.out hb)
                clear hb HX HB HXa HBa HP x0 x1 x2 x3 d0 d1 d2 g0 hC1 hC2
                have g0 : w2.cell? ⟨bd + 1, 0, none⟩ = some (.slice Ao i co) := (blk_cell HX2.out.cell 0).trans rfl
                have d0 : w2.cell? ⟨bd, 0, none⟩ = some (.slice A1 T.length c1) := (blk_cell HX2.out.d.blk 0).trans rfl
                have d1 : w2.cell? ⟨bd, 1, none⟩ = some (.slice A2 E.length c2) := (blk_cell HX2.out.d.blk 1).trans rfl
                have hm0 : 0 < E.length := by omega
                obtain ⟨g, cap, hg0, hg1, hg2, hg3⟩ := Kd.R_form HX2.out.d.en hm0
                injection hg0 with hg0a _ hg0b
                subst hg0a hg0b
                obtain ⟨c, hcl, hM4, hcc, hfz⟩ := Kd.R_elem HX2.out.d.en z62 p hp hpe
                have hcs := k62_openM hM4
                have y2 : w2.cell? ⟨g, p.toNat * 4 + 2, none⟩ = some (.int .i64 (rd_T62 E p).f2) := hcc 2 _ (by rw [hcs]; rfl)
                clear hcl hM4 hcc hfz hcs hg3 hm0
                go_wp2_with (first | ((with_reducible refine gate_builtin (b := .append) (xs := #[.tmp 59, .tmp 61]) rfl ?_); at_builtin; refine Kd.R_append (Kd.int .i64) (w0 := w) w.heap.size rfl (.tmp 59) (.tmp 61) 22 2 (.int .i64 0) 8 rfl Try.underlying22 (by kernel_rfl) rfl (by decide) (by omega) (.slice Ao i co) O ((rd_T62 E p).f2 : Int) [.int .i64 ((rd_T62 E p).f2)] (fun k => some k ≠ Value.ownBlock (Value.slice A1 T.length c1)) (fun _ => False) rfl ?aX ?aP (fun _ hk => hk.elim) ?aF ?aO ?aB ?aS ?aL ?_; (case aX => first | rfl | (simp [Act.eval, Frame.eval]; done) | (go_simp; done) | (go_simp; rfl)); (case aP => exact rfl); (case aB => exact HB2.out); (case aF => exact (HX2.out).fresh); (case aO => exact (HX2.out).out); (case aS => exact Below.size HB2.out); (case aL => rw [HO.out]; omega); intro v1 w3 ho3 hb3 hg3 hat3; obtain ⟨A3, c3, hv3, hc3, hC3⟩ := Kd.R_reads ho3; have hl3 : (O ++ [((rd_T62 E p).f2 : Int)]).length = i + 1 := (by rw [List.length_append, HO.out]; rfl); rw [hl3] at hv3; subst hv3; clear hc3 hC3 hl3; have hbk := (hg3.block (bd + 1) (lt_of_block (HX2.out).cell) (Kd.R_ne (HX2.out).out (HX2.out).cell (by decide))).trans (HX2.out).cell; have y1 : w3.cell? ⟨bd + 1, 0, none⟩ = some (.slice Ao i co) := (blk_cell hbk 0).trans rfl; have z1 : w3.frozen? ⟨bd + 1, 0, none⟩ = false := blk_frozen hbk 0; have HO3 := Aside0.mk ho3; have HG3 := Aside0.mk hg3; have HB3 := Aside0.mk hb3; clear ho3 hb3 hg3 hat3 hbk))
                have HX3 := Aside0.mk (RAt.app (HX2.out) HO3.out HG3.out).1
                have HB4 := Aside0.mk (below_set (j := 0) (v := .slice A3 (i + 1) c3) HB3.out (show w.heap.size ≤ bd + 1 by omega))
                go_roundg kq
                case measure => omega
                case rel => exact ⟨i + 1, T, E, live, _, _, _, _, by first | rfl | simp, by omega, HA, ⟨by rw [List.length_append, HO.out]; rfl⟩, HX3, HB4⟩
              · rw [if_neg hpe] at H4
                simp at H4
            · rw [if_neg hp] at H4
              obtain rfl := Option.some.inj H4
              have HA := Aside0.mk H2
              clear H2 H4
              have HXa := Aside0.mk (HX.out.below (below_alloc (Below.refl _ _) (.cells #[.int .i64 2, .int .u64 o.f1, .int .i64 o.f2, .int .i64 o.f3] 37)))
              have HBa := Aside0.mk (below_alloc HB.out (.cells #[.int .i64 2, .int .u64 o.f1, .int .i64 o.f2, .int .i64 o.f3] 37))
              clear d0 d1 d2 g0
              have d0 : (wr.alloc (.cells #[.int .i64 2, .int .u64 o.f1, .int .i64 o.f2, .int .i64 o.f3] 37)).cell? ⟨bd, 0, none⟩ = some (.slice A1 T.length c1) := (blk_cell HXa.out.d.blk 0).trans rfl
              have d1 : (wr.alloc (.cells #[.int .i64 2, .int .u64 o.f1, .int .i64 o.f2, .int .i64 o.f3] 37)).cell? ⟨bd, 1, none⟩ = some (.slice A2 E.length c2) := (blk_cell HXa.out.d.blk 1).trans rfl
              have d2 : (wr.alloc (.cells #[.int .i64 2, .int .u64 o.f1, .int .i64 o.f2, .int .i64 o.f3] 37)).cell? ⟨bd, 2, none⟩ = some (.int .i64 live) := (blk_cell HXa.out.d.blk 2).trans rfl
              have g0 : (wr.alloc (.cells #[.int .i64 2, .int .u64 o.f1, .int .i64 o.f2, .int .i64 o.f3] 37)).cell? ⟨bd + 1, 0, none⟩ = some (.slice Ao i co) := (blk_cell HXa.out.cell 0).trans rfl
              go_wp2_with fail
              refine (impl_yfind.calls A1 c1 T A2 c2 E live o.f1 o.f2 p q _ (Kd.C_alloc hC1 _) hc1 (Kd.C_alloc hC2 _) hc2 HP.out).mono ?_
              rintro e w2 ⟨rfl, hb⟩
              have HX2 := Aside0.mk (HXa.out.below hb)
              have HB2 := Aside0.mk (below_step HBa.out hb)
              clear hb HX HB HXa HBa HP x0 x1 x2 x3 d0 d1 d2 g0 hC1 hC2
              have g0 : w2.cell? ⟨bd + 1, 0, none⟩ = some (.slice Ao i co) := (blk_cell HX2.out.cell 0).trans rfl
              have d0 : w2.cell? ⟨bd, 0, none⟩ = some (.slice A1 T.length c1) := (blk_cell HX2.out.d.blk 0).trans rfl
              have d1 : w2.cell? ⟨bd, 1, none⟩ = some (.slice A2 E.length c2) := (blk_cell HX2.out.d.blk 1).trans rfl
              go_wp2_with (first | ((with_reducible refine gate_builtin (b := .append) (xs := #[.tmp 59, .tmp 61]) rfl ?_); at_builtin; refine Kd.R_append (Kd.int .i64) (w0 := w) w.heap.size rfl (.tmp 59) (.tmp 61) 22 2 (.int .i64 0) 8 rfl Try.underlying22 (by kernel_rfl) rfl (by decide) (by omega) (.slice Ao i co) O (-1 : Int) [.int .i64 (-1)] (fun k => some k ≠ Value.ownBlock (Value.slice A1 T.length c1)) (fun _ => False) rfl ?aX ?aP (fun _ hk => hk.elim) ?aF ?aO ?aB ?aS ?aL ?_; (case aX => first | rfl | (simp [Act.eval, Frame.eval]; done) | (go_simp; done) | (go_simp; rfl)); (case aP => exact rfl); (case aB => exact HB2.out); (case aF => exact (HX2.out).fresh); (case aO => exact (HX2.out).out); (case aS => exact Below.size HB2.out); (case aL => rw [HO.out]; omega); intro v1 w3 ho3 hb3 hg3 hat3; obtain ⟨A3, c3, hv3, hc3, hC3⟩ := Kd.R_reads ho3; have hl3 : (O ++ [(-1 : Int)]).length = i + 1 := (by rw [List.length_append, HO.out]; rfl); rw [hl3] at hv3; subst hv3; clear hc3 hC3 hl3; have hbk := (hg3.block (bd + 1) (lt_of_block (HX2.out).cell) (Kd.R_ne (HX2.out).out (HX2.out).cell (by decide))).trans (HX2.out).cell; have y1 : w3.cell? ⟨bd + 1, 0, none⟩ = some (.slice Ao i co) := (blk_cell hbk 0).trans rfl; have z1 : w3.frozen? ⟨bd + 1, 0, none⟩ = false := blk_frozen hbk 0; have HO3 := Aside0.mk ho3; have HG3 := Aside0.mk hg3; have HB3 := Aside0.mk hb3; clear ho3 hb3 hg3 hat3 hbk))
              have HX3 := Aside0.mk (RAt.app (HX2.out) HO3.out HG3.out).1
              have HB4 := Aside0.mk (below_set (j := 0) (v := .slice A3 (i + 1) c3) HB3.out (show w.heap.size ≤ bd + 1 by omega))
              go_roundg kq
              case measure => omega
              case rel => exact ⟨i + 1, T, E, live, _, _, _, _, by first | rfl | simp, by omega, HA, ⟨by rw [List.length_append, HO.out]; rfl⟩, HX3, HB4⟩
          · rw [if_neg k2] at H0
            by_cases k3 : o.f0 = 3
            · rw [if_pos k3] at H0
              clear k1 k2
              obtain ⟨x, H1, H2⟩ := Option.bind_eq_some_iff.1 H0
              obtain ⟨⟨T2, E2, live2, b⟩, H3, H4⟩ := Option.bind_eq_some_iff.1 H1
              obtain rfl := Option.some.inj H4
              have HP := Aside0.mk H3
              have HA := Aside0.mk H2
              clear H0 H1 H2 H3 H4
              go_wp2_with fail
              refine (ycut_calls w.heap.size bd _ _ T T2 E E2 live live2 o.f1 o.f2 b _ (HX.out.d.below (below_alloc (Below.refl _ _) _)) HP.out).mono ?_
              rintro e w2 ⟨rfl, v0, v1, hD2, hO2, o0, o1⟩
              have HX2 := Aside0.mk ((HX.out.below (below_alloc (Below.refl _ _) _)).dict hD2 hO2 o0).1
              have HB2 := Aside0.mk (Only.below1 (below_alloc HB.out _) hO2 (HX.out.d.below (below_alloc (Below.refl _ _) _)) (Nat.le_refl _) hbd)
              clear hD2 hO2 o0 o1 HX HB HP x0 x1 x2 x3 d0 d1 d2 g0
              go_wp2_with fail
              refine (yes_calls w.heap.size bd (bd + 1) v0 v1 (.slice Ao i co) T2 E2 live2 O b w w2 HX2.out HB2.out HB2.out.size (by omega) rfl (by rw [HO.out]; omega)).mono ?_
              rintro e w3 ⟨rfl, v, hX3, hB3, _, _⟩
              have HX3 := Aside0.mk hX3
              have HB3 := Aside0.mk hB3
              clear hX3 hB3 HX2 HB2
              go_wp2
              go_roundg kq
              case measure => omega
              case rel => exact ⟨i + 1, T2, E2, live2, _, v0, v1, v, by first | rfl | simp, by omega, HA, ⟨by rw [List.length_append, HO.out]; rfl⟩, HX3, HB3⟩
            · rw [if_neg k3] at H0
              by_cases k4 : o.f0 = 4
              · rw [if_pos k4] at H0
                clear k1 k2 k3
                obtain ⟨x, H1, H2⟩ := Option.bind_eq_some_iff.1 H0
                obtain ⟨⟨p, q⟩, H3, H4⟩ := Option.bind_eq_some_iff.1 H1
                simp only at H4
                have HP := Aside0.mk H3
                obtain rfl := Option.some.inj H4
                have HA := Aside0.mk H2
                clear H0 H1 H3 H2 H4
                have HXa := Aside0.mk (HX.out.below (below_alloc (Below.refl _ _) (.cells #[.int .i64 4, .int .u64 o.f1, .int .i64 o.f2, .int .i64 o.f3] 37)))
                have HBa := Aside0.mk (below_alloc HB.out (.cells #[.int .i64 4, .int .u64 o.f1, .int .i64 o.f2, .int .i64 o.f3] 37))
                clear d0 d1 d2 g0
                have d0 : (wr.alloc (.cells #[.int .i64 4, .int .u64 o.f1, .int .i64 o.f2, .int .i64 o.f3] 37)).cell? ⟨bd, 0, none⟩ = some (.slice A1 T.length c1) := (blk_cell HXa.out.d.blk 0).trans rfl
                have d1 : (wr.alloc (.cells #[.int .i64 4, .int .u64 o.f1, .int .i64 o.f2, .int .i64 o.f3] 37)).cell? ⟨bd, 1, none⟩ = some (.slice A2 E.length c2) := (blk_cell HXa.out.d.blk 1).trans rfl
                have d2 : (wr.alloc (.cells #[.int .i64 4, .int .u64 o.f1, .int .i64 o.f2, .int .i64 o.f3] 37)).cell? ⟨bd, 2, none⟩ = some (.int .i64 live) := (blk_cell HXa.out.d.blk 2).trans rfl
                have g0 : (wr.alloc (.cells #[.int .i64 4, .int .u64 o.f1, .int .i64 o.f2, .int .i64 o.f3] 37)).cell? ⟨bd + 1, 0, none⟩ = some (.slice Ao i co) := (blk_cell HXa.out.cell 0).trans rfl
                go_wp2_with fail
                refine (impl_yfind.calls A1 c1 T A2 c2 E live o.f1 o.f2 p q _ (Kd.C_alloc hC1 _) hc1 (Kd.C_alloc hC2 _) hc2 HP.out).mono ?_
                rintro e w2 ⟨rfl, hb⟩
                have HX2 := Aside0.mk (HXa.out.below hb)
                have HB2 := Aside0.mk (below_step HBa.out hb)
                clear hb HX HB HXa HBa HP x0 x1 x2 x3 d0 d1 d2 g0 hC1 hC2
                have g0 : w2.cell? ⟨bd + 1, 0, none⟩ = some (.slice Ao i co) := (blk_cell HX2.out.cell 0).trans rfl
                have d0 : w2.cell? ⟨bd, 0, none⟩ = some (.slice A1 T.length c1) := (blk_cell HX2.out.d.blk 0).trans rfl
                have d1 : w2.cell? ⟨bd, 1, none⟩ = some (.slice A2 E.length c2) := (blk_cell HX2.out.d.blk 1).trans rfl
                go_wp2_with (first | ((with_reducible refine gate_builtin (b := .append) (xs := #[.tmp 83, .tmp 85]) rfl ?_); at_builtin; refine Kd.R_append (Kd.int .i64) (w0 := w) w.heap.size rfl (.tmp 83) (.tmp 85) 22 2 (.int .i64 0) 8 rfl Try.underlying22 (by kernel_rfl) rfl (by decide) (by omega) (.slice Ao i co) O (q : Int) [.int .i64 (q)] (fun k => some k ≠ Value.ownBlock (Value.slice A1 T.length c1)) (fun _ => False) rfl ?aX ?aP (fun _ hk => hk.elim) ?aF ?aO ?aB ?aS ?aL ?_; (case aX => first | rfl | (simp [Act.eval, Frame.eval]; done) | (go_simp; done) | (go_simp; rfl)); (case aP => exact rfl); (case aB => exact HB2.out); (case aF => exact (HX2.out).fresh); (case aO => exact (HX2.out).out); (case aS => exact Below.size HB2.out); (case aL => rw [HO.out]; omega); intro v1 w3 ho3 hb3 hg3 hat3; obtain ⟨A3, c3, hv3, hc3, hC3⟩ := Kd.R_reads ho3; have hl3 : (O ++ [(q : Int)]).length = i + 1 := (by rw [List.length_append, HO.out]; rfl); rw [hl3] at hv3; subst hv3; clear hc3 hC3 hl3; have hbk := (hg3.block (bd + 1) (lt_of_block (HX2.out).cell) (Kd.R_ne (HX2.out).out (HX2.out).cell (by decide))).trans (HX2.out).cell; have y1 : w3.cell? ⟨bd + 1, 0, none⟩ = some (.slice Ao i co) := (blk_cell hbk 0).trans rfl; have z1 : w3.frozen? ⟨bd + 1, 0, none⟩ = false := blk_frozen hbk 0; have HO3 := Aside0.mk ho3; have HG3 := Aside0.mk hg3; have HB3 := Aside0.mk hb3; clear ho3 hb3 hg3 hat3 hbk))
                have HX3 := Aside0.mk (RAt.app (HX2.out) HO3.out HG3.out).1
                have HB4 := Aside0.mk (below_set (j := 0) (v := .slice A3 (i + 1) c3) HB3.out (show w.heap.size ≤ bd + 1 by omega))
                go_roundg kq
                case measure => omega
                case rel => exact ⟨i + 1, T, E, live, _, _, _, _, by first | rfl | simp, by omega, HA, ⟨by rw [List.length_append, HO.out]; rfl⟩, HX3, HB4⟩
              · rw [if_neg k4] at H0
                by_cases k5 : o.f0 = 5
                · rw [if_pos k5] at H0
                  clear k1 k2 k3 k4
                  have HA := Aside0.mk H0
                  clear H0
                  have HXa := Aside0.mk (HX.out.below (below_alloc (Below.refl _ _) (.cells #[.int .i64 5, .int .u64 o.f1, .int .i64 o.f2, .int .i64 o.f3] 37)))
                  have HBa := Aside0.mk (below_alloc HB.out (.cells #[.int .i64 5, .int .u64 o.f1, .int .i64 o.f2, .int .i64 o.f3] 37))
                  clear d0 d1 d2 g0
                  have d0 : (wr.alloc (.cells #[.int .i64 5, .int .u64 o.f1, .int .i64 o.f2, .int .i64 o.f3] 37)).cell? ⟨bd, 0, none⟩ = some (.slice A1 T.length c1) := (blk_cell HXa.out.d.blk 0).trans rfl
                  have d1 : (wr.alloc (.cells #[.int .i64 5, .int .u64 o.f1, .int .i64 o.f2, .int .i64 o.f3] 37)).cell? ⟨bd, 1, none⟩ = some (.slice A2 E.length c2) := (blk_cell HXa.out.d.blk 1).trans rfl
                  have d2 : (wr.alloc (.cells #[.int .i64 5, .int .u64 o.f1, .int .i64 o.f2, .int .i64 o.f3] 37)).cell? ⟨bd, 2, none⟩ = some (.int .i64 live) := (blk_cell HXa.out.d.blk 2).trans rfl
                  have g0 : (wr.alloc (.cells #[.int .i64 5, .int .u64 o.f1, .int .i64 o.f2, .int .i64 o.f3] 37)).cell? ⟨bd + 1, 0, none⟩ = some (.slice Ao i co) := (blk_cell HXa.out.cell 0).trans rfl
                  go_wp2_with (first | ((with_reducible refine gate_builtin (b := .append) (xs := #[.tmp 89, .tmp 93]) rfl ?_); at_builtin; refine Kd.R_append (Kd.int .i64) (w0 := w) w.heap.size rfl (.tmp 89) (.tmp 93) 22 2 (.int .i64 0) 8 rfl Try.underlying22 (by kernel_rfl) rfl (by decide) (by omega) (.slice Ao i co) O ((T.length : Int) : Int) [.int .i64 ((T.length : Int))] (fun k => some k ≠ Value.ownBlock (Value.slice A1 T.length c1)) (fun _ => False) rfl ?aX ?aP (fun _ hk => hk.elim) ?aF ?aO ?aB ?aS ?aL ?_; (case aX => first | rfl | (simp [Act.eval, Frame.eval]; done) | (go_simp; done) | (go_simp; rfl)); (case aP => exact rfl); (case aB => exact HBa.out); (case aF => exact (HXa.out).fresh); (case aO => exact (HXa.out).out); (case aS => exact Below.size HBa.out); (case aL => rw [HO.out]; omega); intro v1 w3 ho3 hb3 hg3 hat3; obtain ⟨A3, c3, hv3, hc3, hC3⟩ := Kd.R_reads ho3; have hl3 : (O ++ [((T.length : Int) : Int)]).length = i + 1 := (by rw [List.length_append, HO.out]; rfl); rw [hl3] at hv3; subst hv3; clear hc3 hC3 hl3; have hbk := (hg3.block (bd + 1) (lt_of_block (HXa.out).cell) (Kd.R_ne (HXa.out).out (HXa.out).cell (by decide))).trans (HXa.out).cell; have y1 : w3.cell? ⟨bd + 1, 0, none⟩ = some (.slice Ao i co) := (blk_cell hbk 0).trans rfl; have z1 : w3.frozen? ⟨bd + 1, 0, none⟩ = false := blk_frozen hbk 0; have HO3 := Aside0.mk ho3; have HG3 := Aside0.mk hg3; have HB3 := Aside0.mk hb3; clear ho3 hb3 hg3 hat3 hbk))
                  have HX3 := Aside0.mk (RAt.app (HXa.out) HO3.out HG3.out).1
                  have HB4 := Aside0.mk (below_set (j := 0) (v := .slice A3 (i + 1) c3) HB3.out (show w.heap.size ≤ bd + 1 by omega))
                  go_roundg kq
                  case measure => omega
                  case rel => exact ⟨i + 1, T, E, live, _, _, _, _, by first | rfl | simp, by omega, HA, ⟨by rw [List.length_append, HO.out]; rfl⟩, HX3, HB4⟩
                · rw [if_neg k5] at H0
                  have HA := Aside0.mk H0
                  clear H0
                  have HXa := Aside0.mk (HX.out.below (below_alloc (Below.refl _ _) (.cells #[.int .i64 o.f0, .int .u64 o.f1, .int .i64 o.f2, .int .i64 o.f3] 37)))
                  have HBa := Aside0.mk (below_alloc HB.out (.cells #[.int .i64 o.f0, .int .u64 o.f1, .int .i64 o.f2, .int .i64 o.f3] 37))
                  clear d0 d1 d2 g0
                  have d0 : (wr.alloc (.cells #[.int .i64 o.f0, .int .u64 o.f1, .int .i64 o.f2, .int .i64 o.f3] 37)).cell? ⟨bd, 0, none⟩ = some (.slice A1 T.length c1) := (blk_cell HXa.out.d.blk 0).trans rfl
                  have d1 : (wr.alloc (.cells #[.int .i64 o.f0, .int .u64 o.f1, .int .i64 o.f2, .int .i64 o.f3] 37)).cell? ⟨bd, 1, none⟩ = some (.slice A2 E.length c2) := (blk_cell HXa.out.d.blk 1).trans rfl
                  have d2 : (wr.alloc (.cells #[.int .i64 o.f0, .int .u64 o.f1, .int .i64 o.f2, .int .i64 o.f3] 37)).cell? ⟨bd, 2, none⟩ = some (.int .i64 live) := (blk_cell HXa.out.d.blk 2).trans rfl
                  have g0 : (wr.alloc (.cells #[.int .i64 o.f0, .int .u64 o.f1, .int .i64 o.f2, .int .i64 o.f3] 37)).cell? ⟨bd + 1, 0, none⟩ = some (.slice Ao i co) := (blk_cell HXa.out.cell 0).trans rfl
                  go_wp2_with (first | ((with_reducible refine gate_builtin (b := .append) (xs := #[.tmp 26, .tmp 27]) rfl ?_); at_builtin; refine Kd.R_append (Kd.int .i64) (w0 := w) w.heap.size rfl (.tmp 26) (.tmp 27) 22 2 (.int .i64 0) 8 rfl Try.underlying22 (by kernel_rfl) rfl (by decide) (by omega) (.slice Ao i co) O (-2 : Int) [.int .i64 (-2)] (fun k => some k ≠ Value.ownBlock (Value.slice A1 T.length c1)) (fun _ => False) rfl ?aX ?aP (fun _ hk => hk.elim) ?aF ?aO ?aB ?aS ?aL ?_; (case aX => first | rfl | (simp [Act.eval, Frame.eval]; done) | (go_simp; done) | (go_simp; rfl)); (case aP => exact rfl); (case aB => exact HBa.out); (case aF => exact (HXa.out).fresh); (case aO => exact (HXa.out).out); (case aS => exact Below.size HBa.out); (case aL => rw [HO.out]; omega); intro v1 w3 ho3 hb3 hg3 hat3; obtain ⟨A3, c3, hv3, hc3, hC3⟩ := Kd.R_reads ho3; have hl3 : (O ++ [(-2 : Int)]).length = i + 1 := (by rw [List.length_append, HO.out]; rfl); rw [hl3] at hv3; subst hv3; clear hc3 hC3 hl3; have hbk := (hg3.block (bd + 1) (lt_of_block (HXa.out).cell) (Kd.R_ne (HXa.out).out (HXa.out).cell (by decide))).trans (HXa.out).cell; have y1 : w3.cell? ⟨bd + 1, 0, none⟩ = some (.slice Ao i co) := (blk_cell hbk 0).trans rfl; have z1 : w3.frozen? ⟨bd + 1, 0, none⟩ = false := blk_frozen hbk 0; have HO3 := Aside0.mk ho3; have HG3 := Aside0.mk hg3; have HB3 := Aside0.mk hb3; clear ho3 hb3 hg3 hat3 hbk))
                  have HX3 := Aside0.mk (RAt.app (HXa.out) HO3.out HG3.out).1
                  have HB4 := Aside0.mk (below_set (j := 0) (v := .slice A3 (i + 1) c3) HB3.out (show w.heap.size ≤ bd + 1 by omega))
                  go_roundg kq
                  case measure => omega
                  case rel => exact ⟨i + 1, T, E, live, _, _, _, _, by first | rfl | simp, by omega, HA, ⟨by rw [List.length_append, HO.out]; rfl⟩, HX3, HB4⟩
      · have H0 := HA.out
        have hlen : l0.drop i = [] := List.drop_of_length_le (by rw [HN.out]; omega)
        rw [hlen] at H0
        obtain rfl := Option.some.inj H0
        clear HA hlen H0
        obtain ⟨Ao, co, hvo, hco, hCo⟩ := Kd.R_reads HX.out.out
        rw [HO.out] at hvo
        subst hvo
        clear hco hCo
        have g0 : wr.cell? ⟨bd + 1, 0, none⟩ = some (.slice Ao i co) := (blk_cell HX.out.cell 0).trans rfl
        go_wp2
        go_ret
        exact ⟨_, rfl, Kd.R_mono HX.out.out (fun _ _ => trivial), HB.out⟩

end Go.Proofs.Ytohilfkdfcihgaa.PDi
