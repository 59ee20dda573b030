/- What l2Round of the reference comes to. No condition beyond those of the theorems. -/
import Derived.Test.YtghjbadanhplnaaRndZ
namespace Go.Proofs.Ytghjbadanhplnaa.PF
open Go.RowKit Go.Proofs.YtghjbadanhplnaaW.PrintWords Go.Proofs.YtghjbadanhplnaaW.PrintLast Go.Proofs.YtghjbadanhplnaaW.PrintMore Go.Proofs.Ytghjbadanhplnaa.Limb
set_option linter.unusedVariables false
set_option linter.unusedSimpArgs false

def okNum (l : List Int) : Bool := l.all (fun x => decide (0 ≤ x ∧ x ≤ 4294967295)) && (l.getLast? != some 0) && decide (l.length ≤ 1000)
def spec_l2Round.f (a0 : Bool) (l1 : List Int) (l2 : List Int) : Option Int :=
  if okNum l1 = true ∧ okNum l2 = true ∧ l2 ≠ [] then some (RWw a0 (valL l1 * 2 ^ 1074) (valL l2)) else none
theorem okNum_good {l : List Int} (h : okNum l = true) : Good l (valL l) ∧ l.length ≤ 1000 := by
  unfold okNum at h
  simp only [Bool.and_eq_true, decide_eq_true_eq, List.all_eq_true, bne_iff_ne, ne_eq] at h
  refine ⟨⟨fun x hx => h.1.1 x hx, fun x hx hz => ?_, rfl⟩, h.2⟩
  rw [hz] at hx
  exact h.1.2 hx
theorem e_small {M D : Int} (n : Nat) (h0 : 0 ≤ M) (hD : 0 < D) (h : M < 2 ^ n) : eOf M D ≤ n := by
  by_cases he : eOf M D = 0
  · omega
  · have h1 := eOf_ge h0 hD he
    rcases Nat.lt_or_ge n (eOf M D) with h2 | h2
    · have h3 := p2_mono (show n ≤ eOf M D + 52 by omega)
      have h4 := Int.mul_le_mul_of_nonneg_right (show (1 : Int) ≤ D by omega) (Int.le_of_lt (p2_pos (eOf M D + 52)))
      rw [Int.one_mul] at h4
      omega
    · exact h2
theorem R_C {e : Nat} {w : World} {base : Nat} {ok : Nat → Prop} {A : Option Addr} {n c : Nat} {xs : List Int} (h : (Kd.int .u32).R e w base ok (.slice A n c) xs) : (Kd.int .u32).C w A xs.length xs ∧ xs.length ≤ c := by
  have h1 := Kd.R_reads' h
  exact ⟨by rw [← h1.1]; exact h1.1 ▸ h1.2.2, by rw [← h1.1]; exact h1.2.1⟩

theorem u64_w (n : Int) (h₀ : 0 ≤ n) (h₁ : n < 2 ^ 64) : IntKind.u64.wrap n = n := by
  rw [IntKind.wrap_u64]
  omega
theorem or_limb (uv x : Int) (h0 : 0 ≤ uv) (hx0 : 0 ≤ x) (hx1 : x < 4294967296) (h1 : x + 4294967296 * uv < 9007199254740992) : Go.bits .or .u64 (IntKind.u64.wrap (uv * 4294967296)) (IntKind.u64.wrap x) = x + 4294967296 * uv := by
  rw [u64_in (uv * 4294967296) (by omega) (by omega), u64_in x (by omega) (by omega)]
  rw [bits_join .u64 64 (by decide) u64_w 32 (uv * 4294967296) x (by omega) (by omega) (by omega) hx0 (by omega) (by omega)]
  omega
theorem or_52 (a b : Int) (a0 : 0 ≤ a) (a1 : a ≤ 4000) (b0 : 0 ≤ b) (b1 : b < 4503599627370496) : Go.bits .or .u64 (a * 4503599627370496) b = a * 4503599627370496 + b :=
  bits_join .u64 64 (by decide) u64_w 52 (a * 4503599627370496) b (by omega) (by omega) (by omega) b0 (by omega) (by omega)

set_option maxHeartbeats 16000000 in
set_option maxRecDepth 1000000 in
theorem spec_l2Round.calls (a0 : Bool) (A1 : Option Addr) (c1 : Nat) (l1 : List Int) (A2 : Option Addr) (c2 : Nat) (l2 : List Int) (r : Int) (w : World) (hr1 : Kd.C (Kd.int .u32) w A1 l1.length l1) (hc1 : l1.length ≤ c1) (hr2 : Kd.C (Kd.int .u32) w A2 l2.length l2) (hc2 : l2.length ≤ c2) (h : spec_l2Round.f a0 l1 l2 = some r) :
    Calls Try.prog 36 #[.bool a0, .slice A1 l1.length c1, .slice A2 l2.length c2] w fun e w' => e = .returned (.int .u64 r) ∧ Below w.heap.size w w' := by
  unfold spec_l2Round.f at h
  split at h
  case isFalse => simp at h
  rename_i hk
  obtain ⟨k1, k2, k3⟩ := hk
  have h := Option.some.inj h
  obtain ⟨g1, s1⟩ := okNum_good k1
  obtain ⟨g2, s2⟩ := okNum_good k2
  have hN0 := good_pos g1
  have hD : 0 < valL l2 := by
    have := good_pos g2
    have h2 : valL l2 ≠ 0 := fun e => k3 ((valL_zero g2.1 g2.2.1).1 e)
    omega
  have HC1 := Aside0.mk hr1
  have HC2 := Aside0.mk hr2
  clear hr1 hr2 k1 k2 k3
  by_cases hnil : l1 = []
  · subst hnil
    have hw : r = wordOf a0 0 := by
      rw [← h]
      unfold RWw
      have e1 : valL [] * 2 ^ 1074 = 0 := Int.zero_mul _
      rw [e1]
      have e2 : eOf 0 (valL l2) = 0 := by
        unfold eOf
        rw [Int.zero_ediv]
        rfl
      rw [e2]
      have e3 : halfUp 0 (valL l2 * 2 ^ 0) = 0 := by
        unfold halfUp
        rw [Int.zero_ediv, Int.zero_emod, if_neg (by simp; omega)]
      rw [e3]
      rfl
    have CS := Aside0.mk (fun W => spec_l2Set.calls a0 0 r W (by rw [hw]; exact set_some a0 0 (by omega) (by omega)))
    clear h hw
    go_enter Try.func36, Try.ntmps36
    go_wp2_with fail
    refine (CS.out _).mono ?_
    rintro e w1 ⟨rfl, hb⟩
    have hb := hb.below
    go_wp2
    go_ret
    exact ⟨rfl, hb⟩
  have hN : 0 < valL l1 := by
    have h2 : valL l1 ≠ 0 := fun e => hnil ((valL_zero g1.1 g1.2.1).1 e)
    omega
  have hn1 : 0 < l1.length := List.length_pos_iff.2 hnil
  obtain ⟨b1, e1, i1, m1⟩ := bitsMag_some l1 _ g1 (by omega) 2000000 (by omega)
  obtain ⟨b2, e2, i2, m2⟩ := bitsMag_some l2 _ g2 (by omega) 2000000 (by omega)
  obtain ⟨E0, q0, q1, q2⟩ := e_guess i1 i2 hN hD
  have hEs : eOf (valL l1 * 2 ^ 1074) (valL l2) ≤ 33100 := by
    refine e_small 33100 (Int.mul_nonneg hN0 (Int.le_of_lt (p2_pos _))) hD ?_
    have h3 := isBits_lt i1
    have h4 := p2_mono (show b1 + 1074 ≤ 33100 by omega)
    have h5 : valL l1 * 2 ^ 1074 < 2 ^ (b1 + 1074) := by
      rw [Int.pow_add]
      exact Int.mul_lt_mul_of_pos_right h3 (p2_pos _)
    omega
  have CB1 := Aside0.mk (fun W hW => spec_l1BitsMag.calls 2000000 A1 c1 l1 (b1 : Int) W hW hc1 e1)
  have CB2 := Aside0.mk (fun W hW => spec_l1BitsMag.calls 2000000 A2 c2 l2 (b2 : Int) W hW hc2 e2)
  have H := Aside0.mk h
  have QL := Aside0.mk (fun E hE => q_low (N := valL l1) (D := valL l2) hN0 hD E hE)
  have QB := Aside0.mk (fun E hE => q_bounds (N := valL l1) (D := valL l2) hN0 hD E hE)
  have G1 := Aside0.mk g1
  have G2 := Aside0.mk g2
  have DP := Aside0.mk (fun E => dS_pos (D := valL l2) hD E)
  clear h g1 g2 hnil i1 i2 e1 e2
  clear h
  obtain ⟨E, hE⟩ : ∃ E, eOf (valL l1 * 2 ^ 1074) (valL l2) = E := ⟨_, rfl⟩
  have HE := Aside0.mk hE
  rw [hE] at q1 q2 hEs
  clear hE hN hD hN0
  --GO
  have HQ0 := Aside0.mk q0
  have hbl : -100000 ≤ (b1 : Int) - b2 ∧ (b1 : Int) - b2 ≤ 100000 := by omega
  obtain ⟨hbl1, hbl2⟩ := hbl
  clear q0 m1 m2
  go_enter Try.func36, Try.ntmps36
  go_wp2_with fail
  refine (CB1.out _ HC1.out).mono ?_
  rintro e w1 ⟨rfl, hb⟩
  have HB := Aside0.mk hb.below
  clear hb
  go_wp2_with fail
  refine (CB2.out _ (Kd.C_below HC2.out HB.out)).mono ?_
  rintro e w2 ⟨rfl, hb⟩
  have HB := Aside0.mk (below_step HB.out hb.below)
  clear hb CB1 CB2
  go_upto_if 27 with fail
  generalize hbd : (b1 : Int) - b2 - 53 = bd at *
  have HBD := Aside0.mk hbd
  clear hbd
  go_cut [7] (fun s7 wx => ∃ ev : Int, s7 = .int .i64 ev ∧ Aside0 (ev = (E0 : Int) - 1074) ∧ Aside0 (Below w.heap.size w wx))
  case first =>
    obtain ⟨t, ht⟩ : ∃ t, decide (bd < -1074) = t := ⟨_, rfl⟩
    rw [ht]
    have HT := Aside0.mk ht
    clear ht
    cases t with
    | true =>
      go_wp2_with fail
      go_meet
      exact ⟨-1074, rfl, ⟨by have := HQ0.out; have := HBD.out; have := of_decide_eq_true HT.out; omega⟩, HB⟩
    | false =>
      go_wp2_with fail
      go_meet
      exact ⟨bd, rfl, ⟨by have := HQ0.out; have := HBD.out; have := of_decide_eq_false HT.out; omega⟩, HB⟩
  case rest =>
  clear HB HQ0 HBD hbl1 hbl2
  obtain ⟨ev0, rfl, HE0, HB⟩ := hcut
  go_wp2_with fail
  go_loopg [7] 1 (fun kq v7 w' => ∃ (F : Nat) (ev : Int), v7 = .int .i64 ev ∧ Aside0 (ev = (F : Int) - 1074) ∧ F ≤ E ∧ E ≤ F + kq ∧ kq ≤ 1 ∧ Aside0 (Below w.heap.size w w'))
  case atStart => exact ⟨E0, ev0, rfl, HE0, q1, q2, Nat.le_refl _, HB⟩
  case round =>
    clear HB HE0 q1 q2
    obtain ⟨F, ev, rfl, HEV, hF1, hF2, hgk1, HB⟩ := hrel
    have hv1 : -1074 ≤ ev := by have := HEV.out; omega
    have hv2 : ev ≤ 40000 := by have := HEV.out; omega
    go_upto_if 31 with fail
    go_cut [8, 9] (fun s8 s9 wx => ∃ (An : Option Addr) (cn : Nat) (ln : List Int) (Ad : Option Addr) (cd : Nat) (ld : List Int), s8 = .slice An ln.length cn ∧ s9 = .slice Ad ld.length cd ∧ Aside0 ((Kd.int .u32).C wx An ln.length ln) ∧ Aside0 (ln.length ≤ cn) ∧ Aside0 ((Kd.int .u32).C wx Ad ld.length ld) ∧ Aside0 (ld.length ≤ cd) ∧ Aside0 (Good ln (nS (valL l1) F)) ∧ Aside0 (Good ld (dS (valL l2) F)) ∧ Aside0 (ln.length ≤ 2200 ∧ ld.length ≤ 2200) ∧ Aside0 (Below w.heap.size w wx))
    case first =>
      obtain ⟨t, ht⟩ : ∃ t, decide (ev < 0) = t := ⟨_, rfl⟩
      rw [ht]
      have HT := Aside0.mk ht
      clear ht
      cases t with
      | true =>
        have hc : ev < 0 := of_decide_eq_true HT.out
        have hF : F < 1074 := by have := HEV.out; omega
        obtain ⟨s, f1, f2, f3⟩ := shl_some l1 _ (1074 - F) G1.out (by omega) (by omega) 2000000 (by omega)
        have hne : ((1074 - F : Nat) : Int) = -ev := by have := HEV.out; omega
        rw [hne] at f1
        have CL := Aside0.mk (fun W hW => spec_l1ShlMag.calls 2000000 A1 c1 l1 (-ev) s W hW hc1 f1)
        have F2 := Aside0.mk (show Good s (nS (valL l1) F) by unfold nS; rw [if_pos hF]; exact f2)
        have F3 := Aside0.mk (show s.length ≤ 2200 by omega)
        have F4 := Aside0.mk (show Good l2 (dS (valL l2) F) by unfold dS; rw [if_pos hF]; exact G2.out)
        clear hc f1 f2 f3 hne
        go_wp2_with fail
        refine (CL.out _ (Kd.C_below HC1.out HB.out)).mono ?_
        rintro e w3 ⟨v, rfl, hR, hb⟩
        obtain ⟨As, cs, rfl⟩ := Kd.R_slice hR
        have HB3 := Aside0.mk (below_step HB.out hb)
        have HR3 := Aside0.mk (R_C hR)
        clear hR hb CL
        go_wp2_with fail
        go_meet
        exact ⟨As, cs, s, A2, c2, l2, rfl, rfl, ⟨HR3.out.1⟩, ⟨HR3.out.2⟩, ⟨Kd.C_below HC2.out HB3.out⟩, ⟨hc2⟩, F2, F4, ⟨F3.out, by omega⟩, HB3⟩
      | false =>
        have hc : ¬ ev < 0 := of_decide_eq_false HT.out
        have hF : ¬ F < 1074 := by have := HEV.out; omega
        obtain ⟨s, f1, f2, f3⟩ := shl_some l2 _ (F - 1074) G2.out (by omega) (by omega) 2000000 (by omega)
        have hne : ((F - 1074 : Nat) : Int) = ev := by have := HEV.out; omega
        rw [hne] at f1
        have CL := Aside0.mk (fun W hW => spec_l1ShlMag.calls 2000000 A2 c2 l2 ev s W hW hc2 f1)
        have F2 := Aside0.mk (show Good s (dS (valL l2) F) by unfold dS; rw [if_neg hF]; exact f2)
        have F3 := Aside0.mk (show s.length ≤ 2200 by omega)
        have F4 := Aside0.mk (show Good l1 (nS (valL l1) F) by unfold nS; rw [if_neg hF]; exact G1.out)
        clear hc f1 f2 f3 hne
        go_wp2_with fail
        refine (CL.out _ (Kd.C_below HC2.out HB.out)).mono ?_
        rintro e w3 ⟨v, rfl, hR, hb⟩
        obtain ⟨As, cs, rfl⟩ := Kd.R_slice hR
        have HB3 := Aside0.mk (below_step HB.out hb)
        have HR3 := Aside0.mk (R_C hR)
        clear hR hb CL
        go_wp2_with fail
        go_meet
        exact ⟨A1, c1, l1, As, cs, s, rfl, rfl, ⟨Kd.C_below HC1.out HB3.out⟩, ⟨hc1⟩, ⟨HR3.out.1⟩, ⟨HR3.out.2⟩, F4, F2, ⟨by omega, F3.out⟩, HB3⟩
    case rest =>
    clear HB
    obtain ⟨An, cn, ln, Ad, cd, ld, rfl, rfl, HCn, HLn, HCd, HLd, HGn, HGd, HLL, HB⟩ := hcut
    obtain ⟨q, rm, f1, f2, f3, f4, f5⟩ := div_some ln ld _ _ HGn.out HGd.out (DP.out F) (by have := HLL.out.1; omega) (by have := HLL.out.2; omega) 2000000 (by omega)
    have CDv := Aside0.mk (spec_l1DivMag.calls 2000000 An cn ln Ad cd ld q rm wc HCn.out HLn.out HCd.out HLd.out f1)
    obtain ⟨bq, e1, i1, m1⟩ := bitsMag_some q _ f2 (by have := HLL.out.1; omega) 2000000 (by omega)
    obtain ⟨bqi, hbqi⟩ : ∃ x : Int, (bq : Int) = x := ⟨_, rfl⟩
    rw [hbqi] at e1
    have HBQ := Aside0.mk hbqi
    have HIQ := Aside0.mk i1
    have HGq := Aside0.mk f2
    have HGr := Aside0.mk f3
    have HLq := Aside0.mk (show q.length ≤ 2200 by have := HLL.out.1; omega)
    have HLr := Aside0.mk (show rm.length ≤ 2200 by have := HLL.out.2; omega)
    have CBq := Aside0.mk (fun A c W hW hc => spec_l1BitsMag.calls 2000000 A c q bqi W hW hc e1)
    have hbq0 : 0 ≤ bqi := by omega
    clear f1 f2 f3 f4 f5 e1 i1 m1 hbqi
    go_wp2_with fail
    refine CDv.out.mono ?_
    rintro e w4 ⟨vq, vr, rfl, hRq, hRr, hb⟩
    obtain ⟨Aq, cq, rfl⟩ := Kd.R_slice hRq
    obtain ⟨Ar, cr, rfl⟩ := Kd.R_slice hRr
    have HCq := Aside0.mk (R_C hRq)
    have HCr := Aside0.mk (R_C hRr)
    have HCd := Aside0.mk (Kd.C_below HCd.out hb)
    have HB := Aside0.mk (below_step HB.out hb)
    clear hRq hRr hb CDv HCn HLn HGn
    go_wp2_with fail
    refine (CBq.out _ _ _ HCq.out.1 HCq.out.2).mono ?_
    rintro e w5 ⟨rfl, hb⟩
    have hb := hb.below
    have HCq := Aside0.mk (show (Kd.int .u32).C w5 Aq q.length q ∧ q.length ≤ cq from ⟨Kd.C_below HCq.out.1 hb, HCq.out.2⟩)
    have HCr := Aside0.mk (show (Kd.int .u32).C w5 Ar rm.length rm ∧ rm.length ≤ cr from ⟨Kd.C_below HCr.out.1 hb, HCr.out.2⟩)
    have HCd := Aside0.mk (Kd.C_below HCd.out hb)
    have HB := Aside0.mk (below_step HB.out hb)
    clear hb
    by_cases hFE : F + 1 = E
    · have hbig := QL.out F (by rw [HE.out]; exact hFE)
      have h54 : 53 < bq := by
        rcases Nat.lt_or_ge 53 bq with h | h
        · exact h
        · have h1 := p2_mono h
          have h2 := isBits_lt HIQ.out
          omega
      have hd1 : decide (53 < bqi) = true := decide_eq_true (by have := HBQ.out; omega)
      obtain ⟨kq, rfl⟩ : ∃ x, gk = x + 1 := ⟨gk - 1, by omega⟩
      clear hbig h54
      go_wp2_with fail
      go_roundg kq
      case measure => omega
      case rel => exact ⟨F + 1, ev + 1, by first | rfl | simp, ⟨by have := HEV.out; omega⟩, by omega, by omega, by omega, HB⟩
    obtain rfl : F = E := by omega
    obtain ⟨hq0, hq1, hq2, hq3⟩ := QB.out F HE.out.symm
    have hle53 : bq ≤ 53 := by
      rcases Nat.lt_or_ge 53 bq with h | h
      · exfalso
        rcases HIQ.out with ⟨_, h2⟩ | ⟨_, h2, _⟩
        · omega
        · have h1 := p2_mono (show 53 ≤ bq - 1 by omega)
          omega
      · exact h
    have hd1 : decide (53 < bqi) = false := decide_eq_false (by have := HBQ.out; omega)
    have hand : decide (bqi < 53) = true → decide (-1074 < ev) = false := fun h => by
      have h1 := of_decide_eq_true h
      refine decide_eq_false ?_
      have h2 := HBQ.out
      by_cases h0 : F = 0
      · have := HEV.out; omega
      · exfalso
        have h3 := hq2 h0
        have h4 := isBits_lt HIQ.out
        have h5 := p2_mono (show bq ≤ 52 by omega)
        omega
    have HAND := Aside0.mk hand
    have HQ0 := Aside0.mk hq0
    have HQ1 := Aside0.mk hq1
    have HQ2 := Aside0.mk hq2
    have HQ3 := Aside0.mk hq3
    clear hand hq0 hq1 hq2 hq3 hle53 hFE hF1 hF2 QL QB DP
    go_upto_region 14 with fail
    go_cut [56] (fun s56 wx => s56 = .bool false ∧ Aside0 (Below w5.heap.size w5 wx))
    case first =>
      go_wp2_with fail
      refine (CBq.out _ _ _ HCq.out.1 HCq.out.2).mono ?_
      rintro e w6 ⟨rfl, hb⟩
      have HB6 := Aside0.mk hb.below
      clear hb
      obtain ⟨t, ht⟩ : ∃ t, decide (bqi < 53) = t := ⟨_, rfl⟩
      cases t with
      | true =>
        have h2 := HAND.out ht
        go_wp2_with fail
        go_meet
        exact ⟨rfl, HB6⟩
      | false =>
        go_wp2_with fail
        go_meet
        exact ⟨rfl, HB6⟩
    case rest =>
    clear HAND CBq
    obtain ⟨rfl, HB6⟩ := hcut
    have HCq := Aside0.mk (show (Kd.int .u32).C wc Aq q.length q ∧ q.length ≤ cq from ⟨Kd.C_below HCq.out.1 HB6.out, HCq.out.2⟩)
    have HCr := Aside0.mk (show (Kd.int .u32).C wc Ar rm.length rm ∧ rm.length ≤ cr from ⟨Kd.C_below HCr.out.1 HB6.out, HCr.out.2⟩)
    have HCd := Aside0.mk (Kd.C_below HCd.out HB6.out)
    have HB := Aside0.mk (below_step HB.out HB6.out)
    obtain ⟨s2, f1, f2, f3⟩ := shl_some rm _ 1 HGr.out (by have := HLr.out; omega) (by omega) 2000000 (by omega)
    have f1 : spec_l1ShlMag.f 2000000 rm 1 = some s2 := f1
    obtain ⟨c, f4, f5⟩ := cmp_some s2 ld _ _ (by have := HLr.out; omega) (by have := HLL.out.2; omega) f2 HGd.out 2000000 (by have := HLr.out; omega)
    have CL := Aside0.mk (fun W hW => spec_l1ShlMag.calls 2000000 Ar cr rm 1 s2 W hW HCr.out.2 f1)
    have CC := Aside0.mk (fun A d W hW hd hV => spec_l1Cmp.calls 2000000 A d s2 Ad cd ld c W hW hd hV HLd.out f4)
    have HC5 := Aside0.mk f5
    clear HB6 f1 f2 f3 f4 f5
    go_wp2_with fail
    refine (CL.out _ HCr.out.1).mono ?_
    rintro e w6 ⟨v, rfl, hR, hb⟩
    obtain ⟨As, cs, rfl⟩ := Kd.R_slice hR
    have HR6 := Aside0.mk (R_C hR)
    have HCq := Aside0.mk (show (Kd.int .u32).C w6 Aq q.length q ∧ q.length ≤ cq from ⟨Kd.C_below HCq.out.1 hb, HCq.out.2⟩)
    have HCd := Aside0.mk (Kd.C_below HCd.out hb)
    have HB := Aside0.mk (below_step HB.out hb)
    clear hR hb CL HCr
    go_wp2_with fail
    refine (CC.out _ _ _ HR6.out.1 HR6.out.2 HCd.out).mono ?_
    rintro e w7 ⟨rfl, hb⟩
    have hb := hb.below
    have HCq := Aside0.mk (show (Kd.int .u32).C w7 Aq q.length q ∧ q.length ≤ cq from ⟨Kd.C_below HCq.out.1 hb, HCq.out.2⟩)
    have HB := Aside0.mk (below_step HB.out hb)
    clear hb CC HR6 HCd
    have CBit := Aside0.mk (fun W hW => spec_l1BitMag.calls Aq cq q 0 _ W hW HCq.out.2 (bitMag_some q _ HGq.out (by have := HLq.out; omega) 0 (by omega)))
    go_upto_region 17 with fail
    go_cut [73] (fun s73 wx => ∃ up : Bool, s73 = .bool up ∧ Aside0 (halfUp (nS (valL l1) F) (dS (valL l2) F) = if up = true then nS (valL l1) F / dS (valL l2) F + 1 else nS (valL l1) F / dS (valL l2) F) ∧ Aside0 (Below w7.heap.size w7 wx))
    case first =>
      have hp0 : (2 : Int) ^ 0 = 1 := rfl
      obtain ⟨bt, hbt⟩ : ∃ x : Int, nS (valL l1) F / dS (valL l2) F / 2 ^ 0 % 2 = x := ⟨_, rfl⟩
      have HBT := Aside0.mk (show (nS (valL l1) F / dS (valL l2) F) % 2 = bt by rw [← hbt, hp0, Int.ediv_one])
      rw [hbt] at CBit
      clear hbt hp0
      have HM2 := Aside0.mk (show ∀ x : Int, x * 2 ^ 1 = 2 * x from fun x => by omega)
      have h5 := HC5.out
      rw [HM2.out] at h5
      rcases h5 with ⟨rfl, h6⟩ | ⟨rfl, h6⟩ | ⟨rfl, h6⟩
      · have HU := Aside0.mk (show halfUp (nS (valL l1) F) (dS (valL l2) F) = nS (valL l1) F / dS (valL l2) F by
          unfold halfUp
          rw [if_neg (by omega)])
        clear h6 CBit HC5
        go_wp2_with fail
        go_meet
        exact ⟨false, rfl, ⟨by rw [if_neg (by decide)]; exact HU.out⟩, ⟨Below.refl _ _⟩⟩
      · by_cases h1 : bt = 1
        · have HU := Aside0.mk (show halfUp (nS (valL l1) F) (dS (valL l2) F) = nS (valL l1) F / dS (valL l2) F + 1 by
            unfold halfUp
            rw [if_pos (Or.inr ⟨h6, by rw [HBT.out, h1]⟩)])
          subst h1
          clear h6 HC5
          go_wp2_with fail
          refine (CBit.out _ HCq.out.1).mono ?_
          rintro e w8 ⟨rfl, hb⟩
          have HB8 := Aside0.mk hb.below
          clear hb CBit
          go_wp2_with fail
          go_meet
          exact ⟨true, rfl, ⟨by rw [if_pos rfl]; exact HU.out⟩, HB8⟩
        · have HU := Aside0.mk (show halfUp (nS (valL l1) F) (dS (valL l2) F) = nS (valL l1) F / dS (valL l2) F by
            unfold halfUp
            rw [if_neg (by have := HBT.out; omega)])
          have hb1 : (bt == 1) = false := by simpa using h1
          clear h6 HC5 h1
          go_wp2_with fail
          refine (CBit.out _ HCq.out.1).mono ?_
          rintro e w8 ⟨rfl, hb⟩
          have HB8 := Aside0.mk hb.below
          clear hb CBit
          go_wp2_with fail
          go_meet
          exact ⟨false, rfl, ⟨by rw [if_neg (by decide)]; exact HU.out⟩, HB8⟩
      · have HU := Aside0.mk (show halfUp (nS (valL l1) F) (dS (valL l2) F) = nS (valL l1) F / dS (valL l2) F + 1 by
          unfold halfUp
          rw [if_pos (Or.inl (by omega))])
        clear h6 CBit HC5
        go_wp2_with fail
        go_meet
        exact ⟨true, rfl, ⟨by rw [if_pos rfl]; exact HU.out⟩, ⟨Below.refl _ _⟩⟩
    case rest =>
    clear CBit HC5
    obtain ⟨up, rfl, HU, HB8⟩ := hcut
    have HCq := Aside0.mk (show (Kd.int .u32).C wc Aq q.length q ∧ q.length ≤ cq from ⟨Kd.C_below HCq.out.1 HB8.out, HCq.out.2⟩)
    have HB := Aside0.mk (below_step HB.out HB8.out)
    clear HB8
    go_upto_if 73 with fail
    go_cut [7, 10] (fun s7 s10 wx => ∃ (G : Nat) (e2 : Int) (Au : Option Addr) (cu : Nat) (lu : List Int) (u : Int), s7 = .int .i64 e2 ∧ s10 = .slice Au lu.length cu ∧ Aside0 (e2 = (G : Int) - 1074) ∧ Aside0 (G ≤ 34000) ∧ Aside0 ((Kd.int .u32).C wx Au lu.length lu ∧ lu.length ≤ cu) ∧ Aside0 (Good lu u) ∧ Aside0 (0 ≤ u ∧ u < 9007199254740992 ∧ (u < 4503599627370496 → G = 0)) ∧ Aside0 ((G : Int) * 4503599627370496 + u = (F : Int) * 4503599627370496 + halfUp (nS (valL l1) F) (dS (valL l2) F)) ∧ Aside0 (Below w.heap.size w wx))
    case first =>
      cases up with
      | false =>
        go_wp2_with fail
        go_meet
        exact ⟨F, ev, Aq, cq, q, _, rfl, rfl, HEV, ⟨by omega⟩, HCq, HGq, ⟨HQ0.out, HQ1.out, fun h => by
          by_cases h0 : F = 0
          · exact h0
          · have := HQ2.out h0; omega⟩, ⟨by rw [HU.out, if_neg (by decide)]⟩, HB⟩
      | true =>
        have HUT : Aside0 (halfUp (nS (valL l1) F) (dS (valL l2) F) = nS (valL l1) F / dS (valL l2) F + 1) := ⟨HU.out.trans (if_pos rfl)⟩
        clear HU
        have g1 : Good [(1 : Int)] 1 := ⟨fun x hx => by rw [List.mem_singleton.1 hx]; decide, fun x hx => by simp at hx; omega, rfl⟩
        obtain ⟨t, f1, f2, f3⟩ := add_some q [1] _ 1 HGq.out g1 (by have := HLq.out; omega) (by simp) 2000000 (by omega)
        obtain ⟨b3, e3, i3, m3⟩ := bitsMag_some t _ f2 (by have := HLq.out; simp at f3; omega) 2000000 (by omega)
        obtain ⟨b3i, hb3⟩ : ∃ x : Int, (b3 : Int) = x := ⟨_, rfl⟩
        rw [hb3] at e3
        have HLIT := Aside0.mk (show (Kd.int .u32).C (wc.alloc (.cells #[.int .u32 1] 61)) (some ⟨wc.heap.size, 0, none⟩) [(1 : Int)].length [1] ∧ [(1 : Int)].length ≤ 1 from R_C (Kd.R_of_own (enc := Value.int .u32) (h1 := fun _ => rfl) (own_lit wc wc.heap.size 61 .u32 [(1 : Int)] (Nat.le_refl _) (by simp)) (fun _ _ => trivial)))
        have HA := Aside0.mk (below_alloc (Below.refl wc.heap.size wc) (.cells #[.int .u32 1] 61))
        have CA := Aside0.mk (spec_l1AddMag.calls 2000000 Aq cq q (some ⟨wc.heap.size, 0, none⟩) 1 [1] t _ (Kd.C_below HCq.out.1 HA.out) HCq.out.2 HLIT.out.1 HLIT.out.2 f1)
        have CB := Aside0.mk (fun A c W hW hc => spec_l1BitsMag.calls 2000000 A c t b3i W hW hc e3)
        have HGt := Aside0.mk f2
        have HLt := Aside0.mk (show t.length ≤ 3000 by have := HLq.out; simp at f3; omega)
        have HI3 := Aside0.mk i3
        have HB3 := Aside0.mk hb3
        clear g1 f1 f2 f3 e3 i3 m3 hb3 HLIT
        go_wp2_with fail
        refine CA.out.mono ?_
        rintro e w8 ⟨v, rfl, hR, hb⟩
        obtain ⟨At, ct, rfl⟩ := Kd.R_slice hR
        have HCt := Aside0.mk (R_C hR)
        have HB := Aside0.mk (below_step HB.out (below_step HA.out hb))
        clear hR hb CA
        go_wp2_with fail
        refine (CB.out _ _ _ HCt.out.1 HCt.out.2).mono ?_
        rintro e w9 ⟨rfl, hb⟩
        have hb := hb.below
        have HCt := Aside0.mk (show (Kd.int .u32).C w9 At t.length t ∧ t.length ≤ ct from ⟨Kd.C_below HCt.out.1 hb, HCt.out.2⟩)
        have HB := Aside0.mk (below_step HB.out hb)
        clear hb CB
        by_cases htop : nS (valL l1) F / dS (valL l2) F + 1 = 9007199254740992
        · have ht : t = [0, 2097152] := good_inj (by have h := HGt.out; rw [htop] at h; exact h) good_53 (by have := HLt.out; omega)
          have hd3 : decide (53 < b3i) = true := decide_eq_true (by
            rw [← HB3.out]
            rcases Nat.lt_or_ge 53 b3 with h | h
            · omega
            · exfalso
              have h1 := isBits_lt HI3.out
              have h2 := p2_mono h
              omega)
          have CR := Aside0.mk (fun W hW => spec_l1ShrMag.calls 2000000 At ct t 1 [0, 1048576] W hW HCt.out.2 (by rw [ht]; exact shr_53 2000000 (by omega)))
          have HTOP := Aside0.mk htop
          clear ht htop
          go_wp2_with fail
          refine (CR.out _ HCt.out.1).mono ?_
          rintro e w10 ⟨v, rfl, hR, hb⟩
          obtain ⟨Au, cu, rfl⟩ := Kd.R_slice hR
          have HCu := Aside0.mk (R_C hR)
          have HB := Aside0.mk (below_step HB.out hb)
          clear hR hb CR
          go_wp2_with fail
          go_meet
          exact ⟨F + 1, ev + 1, Au, cu, [0, 1048576], 4503599627370496, by first | rfl | simp, rfl, ⟨by have := HEV.out; omega⟩, ⟨by omega⟩, HCu, ⟨good_52⟩, ⟨by omega, by omega, fun h => by omega⟩, ⟨by rw [HUT.out, HTOP.out]; omega⟩, HB⟩
        · have hd3 : decide (53 < b3i) = false := decide_eq_false (by
            rw [← HB3.out]
            rcases Nat.lt_or_ge 53 b3 with h | h
            · exfalso
              have h3 := HQ1.out
              rcases HI3.out with ⟨_, h2⟩ | ⟨_, h2, _⟩
              · omega
              · have h1 := p2_mono (show 53 ≤ b3 - 1 by omega)
                omega
            · omega)
          have HTOP := Aside0.mk htop
          clear htop
          go_wp2_with fail
          go_meet
          exact ⟨F, ev, At, ct, t, _, rfl, rfl, HEV, ⟨by omega⟩, HCt, HGt, ⟨by have := HQ0.out; omega, by have := HQ1.out; have := HTOP.out; omega, fun h => by
            by_cases h0 : F = 0
            · exact h0
            · have := HQ2.out h0; omega⟩, ⟨by rw [HUT.out]⟩, HB⟩
    case rest =>
    clear HB HCq HGq HU HEV HQ0 HQ1 HQ2 hv1 hv2
    obtain ⟨G, e2, Au, cu, lu, u, rfl, rfl, HE2, HG, HCu, HGu, HUB, HUV, HB⟩ := hcut
    have hlu2 : lu.length ≤ 2 := good_short HGu.out good_53 HUB.out.2.1
    obtain ⟨m, hm⟩ : ∃ m, lu.length = m := ⟨_, rfl⟩
    have HM := Aside0.mk hm
    have HCu := Aside0.mk (show (Kd.int .u32).C wc Au m lu by rw [← hm]; exact HCu.out.1)
    rw [hm] at hlu2 ⊢
    clear hm
    go_wp2_with fail
    have HBc := Aside0.mk (Below.refl wc.heap.size wc)
    go_loopg [13, 14] m (fun kq v13 v14 w' => ∃ (j : Nat) (uv iv : Int), v13 = .int .u64 uv ∧ v14 = .int .i64 iv ∧ iv = (j : Int) - 1 ∧ j = kq ∧ j ≤ m ∧ Aside0 (uv = valL (lu.drop j)) ∧ Aside0 (Below wc.heap.size wc w'))
    case atStart => exact ⟨m, 0, (m : Int) - 1, rfl, by first | rfl | simp, rfl, rfl, Nat.le_refl _, ⟨by rw [List.drop_eq_nil_iff.2 (by rw [HM.out]; exact Nat.le_refl _)]; rfl⟩, HBc⟩
    case round =>
      clear HBc
      obtain ⟨j, uv, iv, rfl, rfl, hiv, rfl, hjm, HUV2, HBc⟩ := hrel
      by_cases hj : 0 < j
      · obtain ⟨j, rfl⟩ : ∃ x, j = x + 1 := ⟨j - 1, by omega⟩
        obtain rfl : iv = (j : Int) := by omega
        clear hiv
        have hjL : j < lu.length := by rw [HM.out]; omega
        obtain ⟨al, rfl, y0⟩ := Kd.at_int (Kd.C_below HCu.out HBc.out) (j : Int) (by omega) (by omega)
        rw [rdI lu j hjL, Int.toNat_natCast] at y0
        have HX := Aside0.mk (HGu.out.1.get j hjL)
        have HNX := Aside0.mk (show valL (lu.drop j) = lu[j] + 4294967296 * uv by rw [HUV2.out, List.drop_eq_getElem_cons hjL, valL])
        obtain ⟨x, hx⟩ : ∃ x, lu[j] = x := ⟨_, rfl⟩
        rw [hx] at y0 HX HNX
        have hjm2 : (j : Int) < (m : Int) := by omega
        have HUQ := HUV2
        clear hx hjL HUV2
        have HOR := Aside0.mk (or_limb uv x (by have h := HNX.out; have h2 := HX.out; have h3 := valL_nonneg (l := lu.drop (j + 1)) (fun y hy => HGu.out.1 y (List.mem_of_mem_drop hy)); rw [← HUQ.out] at h3; exact h3) HX.out.1 (by have := HX.out.2; omega) (by
          have h := HNX.out
          have h1 := valL_drop lu HGu.out.1 j (by rw [HM.out]; omega)
          have h2 := HUB.out
          have h3 : valL lu / 4294967296 ^ j ≤ valL lu := Int.ediv_le_self _ (by rw [HGu.out.2.2]; omega)
          rw [h1, HGu.out.2.2, h] at h3
          omega))
        go_wp2_with fail
        go_roundg j
        case measure => omega
        case rel => exact ⟨j, _, (j : Int) - 1, rfl, by first | rfl | simp, rfl, rfl, by omega, ⟨by rw [HOR.out, HNX.out]⟩, HBc⟩
      · obtain rfl : j = 0 := by omega
        obtain rfl : iv = -1 := by omega
        have HUu := Aside0.mk (show uv = u by have h := HUV2.out; rw [List.drop_zero, HGu.out.2.2] at h; exact h)
        clear hiv hj hjm HUV2
        have HRES := Aside0.mk (show r = wordOf a0 (min ((G : Int) * 4503599627370496 + u) 9218868437227405312) by
          rw [← H.out]
          unfold RWw
          rw [HE.out, HQ3.out, HUV.out])
        have hg34 := HG.out
        have hub := HUB.out
        have he2 := HE2.out
        have HBE := Aside0.mk (below_step HB.out HBc.out)
        by_cases c1 : 971 < e2
        · have hd : decide (971 < e2) = true := decide_eq_true c1
          have CS := Aside0.mk (fun W => spec_l2Set.calls a0 9218868437227405312 r W (by
            rw [HRES.out, set_some a0 _ (by omega) (by omega)]
            congr 2
            by_cases h0 : u < 4503599627370496
            · have := hub.2.2 h0; omega
            · omega))
          clear c1 hub he2 hg34
          go_wp2_with fail
          refine (CS.out _).mono ?_
          rintro e w8 ⟨rfl, hb⟩
          have HBE := Aside0.mk (below_step HBE.out hb.below)
          clear hb
          go_wp2
          go_ret
          exact ⟨rfl, HBE.out⟩
        · have hd : decide (971 < e2) = false := decide_eq_false c1
          by_cases c2 : uv < 4503599627370496
          · have hd2 : decide (uv < 4503599627370496) = true := decide_eq_true c2
            have CS := Aside0.mk (fun W => spec_l2Set.calls a0 uv r W (by
              have h0 := HUu.out
              have h1 := hub.2.2 (by omega)
              rw [HRES.out, set_some a0 _ (by omega) (by omega)]
              congr 2
              omega))
            clear c1 c2 hub he2 hg34
            go_wp2_with fail
            refine (CS.out _).mono ?_
            rintro e w8 ⟨rfl, hb⟩
            have HBE := Aside0.mk (below_step HBE.out hb.below)
            clear hb
            go_wp2
            go_ret
            exact ⟨rfl, HBE.out⟩
          · have hd2 : decide (uv < 4503599627370496) = false := decide_eq_false c2
            have HW := Aside0.mk (show Go.bits .or .u64 (IntKind.u64.wrap (IntKind.u64.wrap (wrap64 (wrap64 (e2 + 1074) + 1)) * 4503599627370496)) (IntKind.u64.wrap (uv - 4503599627370496)) = (G : Int) * 4503599627370496 + u by
              have h0 := HUu.out
              rw [wrap_in (e2 + 1074) (by omega) (by omega), wrap_in (e2 + 1074 + 1) (by omega) (by omega), u64_in (e2 + 1074 + 1) (by omega) (by omega), u64_in ((e2 + 1074 + 1) * 4503599627370496) (by omega) (by omega), u64_in (uv - 4503599627370496) (by omega) (by omega)]
              rw [or_52 (e2 + 1074 + 1) (uv - 4503599627370496) (by omega) (by omega) (by omega) (by omega)]
              omega)
            have CS := Aside0.mk (fun W => spec_l2Set.calls a0 ((G : Int) * 4503599627370496 + u) r W (by
              have h0 := HUu.out
              rw [HRES.out, set_some a0 _ (by omega) (by omega)]
              congr 2
              omega))
            clear c1 c2 hub he2 hg34
            go_wp2_with fail
            rw [HW.out]
            refine (CS.out _).mono ?_
            rintro e w8 ⟨rfl, hb⟩
            have HBE := Aside0.mk (below_step HBE.out hb.below)
            clear hb
            go_wp2
            go_ret
            exact ⟨rfl, HBE.out⟩

end Go.Proofs.Ytghjbadanhplnaa.PF
