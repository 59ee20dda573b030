/- What the law of MroFits comes to. No condition beyond those of the theorems. -/
import Derived.Test.YtkclfbmgnhmkhaaGMark
import Derived.Test.YtkclfbmgnhmkhaaGMro
import Derived.Test.YtkclfbmgnhmkhaaPMx2
import Derived.Test.YtkclfbmgnhmkhaaPCx4
namespace Go.Proofs.Ytkclfbmgnhmkhaa.PC
open Go.RowKit Go.Proofs.YtkclfbmgnhmkhaaW.PrintWords Go.Proofs.YtkclfbmgnhmkhaaW.PrintLast Go.Proofs.YtkclfbmgnhmkhaaW.PrintMore
set_option linter.unusedVariables false
set_option linter.unusedSimpArgs false

theorem R_range {α : Type} {d : Kd α} {e : Nat} {w : World} {b base : Nat} {ok : Nat → Prop} {v : Value} {xs : List α} (h : d.R e w base ok v xs) (hb : b ≤ base) : d.R e w b (fun k => base ≤ k ∧ k < w.heap.size) v xs :=
  Kd.R_lower (Kd.R_mono (Kd.R_bound h) (fun _ hk => ⟨hk.2.1, hk.2.2.1⟩)) hb
theorem S_range {α : Type} {d : Kd α} {e : Nat} {w : World} {b base : Nat} {ok : Nat → Prop} {v : Value} {xs : List α} (h : Kd.S d e w base ok v xs) (hb : b ≤ base) : Kd.S d e w b (fun k => base ≤ k ∧ k < w.heap.size) v xs :=
  Kd.S_lower (Kd.S_mono (Kd.S_bound h) (fun _ hk => ⟨hk.2.1, hk.2.2.1⟩)) hb

set_option maxHeartbeats 8000000 in
set_option maxRecDepth 1000000 in
theorem lawMroFits_calls (k : Nat) (A0 : Option Addr) (c0 : Nat) (l0 : List S61) (w : World) (hr0 : Kd.C k61 w A0 l0.length l0) (hc0 : l0.length ≤ c0) (sz : Int) (hsz : laws_szClassS.f k l0 1048576 = some sz)
    (hrest : sz < 0 ∨ ∃ (C : List S41) (F F2 : List Bool)  (m1 mc : Int) (C2 : List S41), C.length ≤ 1000000000 ∧ laws_toClassS.f k l0 = some C ∧ spec_MroFits.f k C = some F ∧ impl_MroFits.f C = some F ∧ laws_eqBoolS.f k F F = some true ∧ laws_eqClassS.f k C C = some true ∧ markCS k C 1 = some (mc, C2) ∧ 0 ≤ mc ∧ F.length ≤ 1000000000 ∧ laws_markBoolS.f k F 1 = some (m1, F2) ∧ laws_heldBoolS.f k F2 1 = some m1 ∧ 0 ≤ m1) :
    Calls Try.prog 8 #[.slice A0 l0.length c0] w fun e w' => e = .returned (.bool true) ∧ Below w.heap.size w w' := by
  have HC := Aside0.mk hr0
  have HB := Aside0.mk (Below.refl w.heap.size w)
  have CS := Aside0.mk (fun W hW => laws_szClassS.calls k A0 c0 l0 1048576 sz W hW hc0 hsz)
  clear hr0 hsz
  by_cases hneg : sz < 0
  · have hd : decide (sz < 0) = true := decide_eq_true hneg
    clear hrest hneg
    go_enter Try.func8, Try.ntmps8
    go_wp2_with fail
    refine (CS.out _ HC.out).mono ?_
    rintro e w1 ⟨rfl, hb⟩
    go_wp2
    go_ret
    exact ⟨rfl, hb⟩
  obtain ⟨C, F, F2, m1, mc, C2, hCl, h1, h2, h3, h4, h5, h6, h6b, hFl, h7, h8, h9⟩ := hrest.resolve_left hneg
  have hd : decide (sz < 0) = false := decide_eq_false hneg
  have hd1 : decide (mc < 0) = false := decide_eq_false (by omega)
  have hd2 : decide (m1 < 0) = false := decide_eq_false (by omega)
  have CT := Aside0.mk (fun W hW => laws_toClassS.calls k A0 c0 l0 C W hW hc0 h1)
  have CP := Aside0.mk (fun A c W hW hc => spec_MroFits.calls k A c C F W hW hc h2)
  have CI := Aside0.mk (fun A c W hW hc => impl_MroFits.calls A c C F W hW hc h3)
  have CE := Aside0.mk (fun A c B d W hW hc hV hv => laws_eqBoolS.calls k A c F B d F true W hW hc hV hv h4)
  have CQ := Aside0.mk (fun A c B d W hW hc hV hv => laws_eqClassS.calls k A c C B d C true W hW hc hV hv h5)
  have CM := Aside0.mk (fun P v W hb hS => markClassS_calls k P v C 1 mc C2 w W hCl hb hS h6)
  have CB := Aside0.mk (fun P v W hb hR => laws_markBoolS.calls k P v F 1 m1 F2 w W hb hR h7)
  have CH := Aside0.mk (fun A c W hW hc => laws_heldBoolS.calls k A c F2 1 m1 W hW hc h8)
  clear hneg hrest h1 h2 h3 h4 h5 h6 h6b h7 h8 h9 hCl hFl
  go_enter Try.func8, Try.ntmps8
  go_wp2_with fail
  refine (CS.out _ (Kd.C_below HC.out HB.out)).mono ?_
  rintro e w1 ⟨rfl, hb⟩
  have Z1 := Aside0.mk hb.size
  have HB := Aside0.mk (below_step HB.out hb)
  clear hb
  go_wp2_with fail
  refine (CT.out _ (Kd.C_below HC.out HB.out)).mono ?_
  rintro e w2 ⟨v, rfl, hv, hb⟩
  have Z2 := Aside0.mk hb.size
  obtain ⟨AHT, cHT, rfl⟩ := Kd.S_slice hv
  have HT := Aside0.mk (S_range hv HB.out.size)
  have HB := Aside0.mk (below_step HB.out hb)
  clear hb hv
  go_wp2_with fail
  refine (CP.out AHT cHT _ (Kd.S_reads' HT.out).2.2 (Kd.S_reads' HT.out).2.1).mono ?_
  rintro e w3 ⟨v, rfl, hv, hb⟩
  have Z3 := Aside0.mk hb.size
  have HT := Aside0.mk (Kd.S_below HT.out hb)
  obtain ⟨AHW, cHW, rfl⟩ := Kd.R_slice hv
  have HW := Aside0.mk (R_range hv HB.out.size)
  have HB := Aside0.mk (below_step HB.out hb)
  clear hb hv
  go_wp2_with fail
  refine (CT.out _ (Kd.C_below HC.out HB.out)).mono ?_
  rintro e w4 ⟨v, rfl, hv, hb⟩
  have Z4 := Aside0.mk hb.size
  have HW := Aside0.mk (Kd.R_below HW.out hb)
  obtain ⟨AHX, cHX, rfl⟩ := Kd.S_slice hv
  have HX := Aside0.mk (S_range hv HB.out.size)
  have HB := Aside0.mk (below_step HB.out hb)
  clear hb hv
  go_wp2_with fail
  refine (CI.out AHX cHX _ (Kd.S_reads' HX.out).2.2 (Kd.S_reads' HX.out).2.1).mono ?_
  rintro e w5 ⟨v, rfl, hv, hb⟩
  have Z5 := Aside0.mk hb.size
  have HW := Aside0.mk (Kd.R_below HW.out hb)
  have HX := Aside0.mk (Kd.S_below HX.out hb)
  obtain ⟨AHG, cHG, rfl⟩ := Kd.R_slice hv
  have HG := Aside0.mk (R_range hv HB.out.size)
  have HB := Aside0.mk (below_step HB.out hb)
  clear hb hv
  go_wp2_with fail
  refine (CE.out AHG cHG AHW cHW _ (Kd.R_reads' HG.out).2.2 (Kd.R_reads' HG.out).2.1 (Kd.R_reads' HW.out).2.2 (Kd.R_reads' HW.out).2.1).mono ?_
  rintro e w6 ⟨rfl, hb⟩
  have hb := hb.below
  have Z6 := Aside0.mk hb.size
  have HW := Aside0.mk (Kd.R_below HW.out hb)
  have HX := Aside0.mk (Kd.S_below HX.out hb)
  have HG := Aside0.mk (Kd.R_below HG.out hb)
  have HB := Aside0.mk (below_step HB.out hb)
  clear hb
  go_wp2_with fail
  refine (CT.out _ (Kd.C_below HC.out HB.out)).mono ?_
  rintro e w7 ⟨v, rfl, hv, hb⟩
  have Z7 := Aside0.mk hb.size
  have HW := Aside0.mk (Kd.R_below HW.out hb)
  have HX := Aside0.mk (Kd.S_below HX.out hb)
  have HG := Aside0.mk (Kd.R_below HG.out hb)
  obtain ⟨AHY, cHY, rfl⟩ := Kd.S_slice hv
  have HY := Aside0.mk (S_range hv HB.out.size)
  have HB := Aside0.mk (below_step HB.out hb)
  clear hb hv
  go_wp2_with fail
  refine (CQ.out AHX cHX AHY cHY _ (Kd.S_reads' HX.out).2.2 (Kd.S_reads' HX.out).2.1 (Kd.S_reads' HY.out).2.2 (Kd.S_reads' HY.out).2.1).mono ?_
  rintro e w8 ⟨rfl, hb⟩
  have Z8 := Aside0.mk hb.size
  have HW := Aside0.mk (Kd.R_below HW.out hb)
  have HX := Aside0.mk (Kd.S_below HX.out hb)
  have HG := Aside0.mk (Kd.R_below HG.out hb)
  have HY := Aside0.mk (Kd.S_below HY.out hb)
  have HB := Aside0.mk (below_step HB.out hb)
  clear hb
  go_wp2_with fail
  refine (CM.out _ _ _ HB.out HX.out).mono ?_
  rintro e w9 ⟨rfl, hS, hb, hk⟩
  have HW := Aside0.mk (Kd.R_kept HW.out hk (fun k h1 h2 => by have := Z1.out; have := Z2.out; have := Z3.out; have := Z4.out; have := Z5.out; have := Z6.out; have := Z7.out; have := Z8.out; omega))
  have HG := Aside0.mk (Kd.R_kept HG.out hk (fun k h1 h2 => by have := Z1.out; have := Z2.out; have := Z3.out; have := Z4.out; have := Z5.out; have := Z6.out; have := Z7.out; have := Z8.out; omega))
  have Z9 := Aside0.mk hk.1
  have HB := Aside0.mk hb
  clear hS hb hk HX
  go_wp2_with fail
  refine (CE.out AHG cHG AHW cHW _ (Kd.R_reads' HG.out).2.2 (Kd.R_reads' HG.out).2.1 (Kd.R_reads' HW.out).2.2 (Kd.R_reads' HW.out).2.1).mono ?_
  rintro e w10 ⟨rfl, hb⟩
  have hb := hb.below
  have Z10 := Aside0.mk hb.size
  have HW := Aside0.mk (Kd.R_below HW.out hb)
  have HG := Aside0.mk (Kd.R_below HG.out hb)
  have HB := Aside0.mk (below_step HB.out hb)
  clear hb
  go_wp2_with fail
  refine (CB.out _ _ _ HB.out HG.out).mono ?_
  rintro e w11 ⟨rfl, hS, hb, hk⟩
  have HW := Aside0.mk (Kd.R_kept HW.out hk (fun k h1 h2 => by have := Z1.out; have := Z2.out; have := Z3.out; have := Z4.out; have := Z5.out; have := Z6.out; have := Z7.out; have := Z8.out; have := Z9.out; have := Z10.out; omega))
  have HG := Aside0.mk (Kd.R_mono (Kd.R_tight rfl hS) (fun k hk => HG.out.1 k hk.symm))
  have Z11 := Aside0.mk hk.1
  have HB := Aside0.mk hb
  clear hS hb hk
  have hFL : F2.length = F.length := (Kd.R_reads' HG.out).1.symm
  have HFL := Aside0.mk hFL
  clear hFL
  go_wp2_with fail
  have ch := CH.out AHG cHG _ (Kd.R_reads' HG.out).2.2 (by rw [HFL.out]; exact (Kd.R_reads' HG.out).2.1)
  rw [HFL.out] at ch
  refine ch.mono ?_
  rintro e w12 ⟨rfl, hb⟩
  clear ch
  have hb := hb.below
  have Z12 := Aside0.mk hb.size
  have HW := Aside0.mk (Kd.R_below HW.out hb)
  have HG := Aside0.mk (Kd.R_below HG.out hb)
  have HB := Aside0.mk (below_step HB.out hb)
  clear hb
  go_wp2_with fail
  refine (CT.out _ (Kd.C_below HC.out HB.out)).mono ?_
  rintro e w13 ⟨v, rfl, hv, hb⟩
  have Z13 := Aside0.mk hb.size
  have HW := Aside0.mk (Kd.R_below HW.out hb)
  have HG := Aside0.mk (Kd.R_below HG.out hb)
  obtain ⟨AHY, cHY, rfl⟩ := Kd.S_slice hv
  have HY := Aside0.mk (S_range hv HB.out.size)
  have HB := Aside0.mk (below_step HB.out hb)
  clear hb hv
  go_wp2_with fail
  refine (CI.out AHY cHY _ (Kd.S_reads' HY.out).2.2 (Kd.S_reads' HY.out).2.1).mono ?_
  rintro e w14 ⟨v, rfl, hv, hb⟩
  have Z14 := Aside0.mk hb.size
  have HW := Aside0.mk (Kd.R_below HW.out hb)
  have HG := Aside0.mk (Kd.R_below HG.out hb)
  have HY := Aside0.mk (Kd.S_below HY.out hb)
  obtain ⟨AHH, cHH, rfl⟩ := Kd.R_slice hv
  have HH := Aside0.mk (R_range hv HB.out.size)
  have HB := Aside0.mk (below_step HB.out hb)
  clear hb hv
  go_wp2_with fail
  refine (CE.out AHH cHH AHW cHW _ (Kd.R_reads' HH.out).2.2 (Kd.R_reads' HH.out).2.1 (Kd.R_reads' HW.out).2.2 (Kd.R_reads' HW.out).2.1).mono ?_
  rintro e w15 ⟨rfl, hb⟩
  have hb := hb.below
  have Z15 := Aside0.mk hb.size
  have HW := Aside0.mk (Kd.R_below HW.out hb)
  have HG := Aside0.mk (Kd.R_below HG.out hb)
  have HH := Aside0.mk (Kd.R_below HH.out hb)
  have HB := Aside0.mk (below_step HB.out hb)
  clear hb
  go_wp2_with fail
  have ch := CH.out AHG cHG _ (Kd.R_reads' HG.out).2.2 (by rw [HFL.out]; exact (Kd.R_reads' HG.out).2.1)
  rw [HFL.out] at ch
  refine ch.mono ?_
  rintro e w16 ⟨rfl, hb⟩
  clear ch
  have hb := hb.below
  have Z16 := Aside0.mk hb.size
  have HW := Aside0.mk (Kd.R_below HW.out hb)
  have HG := Aside0.mk (Kd.R_below HG.out hb)
  have HH := Aside0.mk (Kd.R_below HH.out hb)
  have HB := Aside0.mk (below_step HB.out hb)
  clear hb
  go_wp2
  go_ret
  exact ⟨rfl, HB.out⟩

end Go.Proofs.Ytkclfbmgnhmkhaa.PC
