/- What the law FnAttrs comes to. No condition beyond those of the theorems. -/
import Derived.Test.YtkclfbmgnhmkhaaPNx5
import Derived.Test.YtkclfbmgnhmkhaaPLx2
import Derived.Test.YtkclfbmgnhmkhaaGMro
namespace Go.Proofs.Ytkclfbmgnhmkhaa.PC
open Go.RowKit Go.Proofs.YtkclfbmgnhmkhaaW.PrintWords Go.Proofs.YtkclfbmgnhmkhaaW.PrintLast Go.Proofs.YtkclfbmgnhmkhaaW.PrintMore
set_option linter.unusedVariables false
set_option linter.unusedSimpArgs false

/-- The last thing of that name in a row, else the one that was there. -/
def lastIn (n : ByteArray) : S48 → List S48 → S48
  | b, [] => b
  | b, a :: r => lastIn n (if hit n a = true then a else b) r
def lineBox (l : List S41) (n : ByteArray) : List Int → S48
  | [] => ⟨⟨#[]⟩, -1, 0⟩
  | c :: r => lastIn n (lineBox l n r) (rd_T41 l c).f1
def mineOf (n : ByteArray) (O : List S48) : Nat → Int
  | 0 => -1
  | j + 1 => if hit n (O.getD j ⟨⟨#[]⟩, 0, 0⟩) = true then (j : Int) else mineOf n O j
theorem lastIn_snoc (n : ByteArray) : ∀ (l : List S48) (b a : S48), lastIn n b (l ++ [a]) = if hit n a = true then a else lastIn n b l
  | [], b, a => rfl
  | x :: r, b, a => lastIn_snoc n r _ a
theorem lastIn_take (n : ByteArray) (l : List S48) (b : S48) (j : Nat) (h : j < l.length) : lastIn n b (l.take (j + 1)) = if hit n l[j] = true then l[j] else lastIn n b (l.take j) := by
  rw [List.take_succ_eq_append_getElem h, lastIn_snoc]
theorem lineBox_drop (l : List S41) (n : ByteArray) (line : List Int) (i : Nat) (h : i < line.length) : lineBox l n (line.drop i) = lastIn n (lineBox l n (line.drop (i + 1))) (rd_T41 l line[i]).f1 := by
  rw [List.drop_eq_getElem_cons h, lineBox]
theorem C_take {α : Type} {d : Kd α} {w : World} {A : Option Addr} {n m : Nat} {xs : List α} (h : d.C w A n xs) (hm : m ≤ xs.length) : d.C w A m (xs.take m) := by
  obtain ⟨h1, h2, h3⟩ := h
  refine ⟨by rw [List.length_take]; omega, by omega, fun hp => ?_⟩
  obtain ⟨ad, e, hc⟩ := h3 (by omega)
  refine ⟨ad, e, fun j p hj => ?_⟩
  rw [List.getElem?_take] at hj
  split at hj
  · exact hc j p hj
  · cases hj

/-- What is known of the answers, where the arguments are right. -/
def FnaOk (l : List S41) (ka : Nat) (O : List S48) (n : ByteArray) (kd v st : Int) (line : List Int) : Prop :=
  line.length ≤ 1000000 ∧ (∀ c ∈ line, 0 ≤ c ∧ c < (l.length : Int)) ∧ (∀ c ∈ l, c.f1.length ≤ 1000000) ∧ O.length ≤ 1000000 ∧
  (st = 1 ∧ (lineBox l n line).f1 ≠ 1 ∨ st = 2 ∧ (lineBox l n line).f1 = 1) ∧
  ((lineBox l n line).f1 = 1 → kd = 3 ∧ v = (lineBox l n line).f2) ∧
  ((lineBox l n line).f1 ≠ 1 → ∀ m : Nat, mineOf n O O.length = (m : Int) → m < O.length ∧ kd = 1 ∧ v = (O.getD m ⟨⟨#[]⟩, 0, 0⟩).f2) ∧
  ((lineBox l n line).f1 ≠ 1 → mineOf n O O.length < 0 → ((lineBox l n line).f1 = 2 → kd = 3 ∧ v = (lineBox l n line).f2) ∧ ((lineBox l n line).f1 = 0 → kd = 2 ∧ v = (lineBox l n line).f2) ∧ ((lineBox l n line).f1 ≠ 2 → (lineBox l n line).f1 ≠ 0 → kd = 0 ∧ v = 0))

set_option maxHeartbeats 16000000 in
set_option maxRecDepth 1000000 in
theorem FnAttrs_calls (k : Nat) (A0 : Option Addr) (c0 : Nat) (l0 : List Int) (w : World) (hr0 : Kd.C (Kd.int .u8) w A0 l0.length l0) (hc0 : l0.length ≤ c0)
    (hp : laws_big.f l0 = some true ∨ (laws_big.f l0 = some false ∧ ∃ (l : List S41) (a1 : Int) (O : List S48) (n : ByteArray) (kd v st : Int), spec_DrawAttrGet.f k l0 = some (l, a1, O, n) ∧ impl_AttrGet.f k l a1 O n = some (kd, v) ∧ impl_AttrSet.f l a1 O n = some st ∧ spec_AttrGet.f k l a1 O n = some (kd, v) ∧
      ((kd = -1 ∧ v = 0 ∧ st = -1) ∨ (kd ≠ -1 ∧ ∃ (ka : Nat) (r1 : List (List Int)) (bad : Int), a1 = (ka : Int) ∧ ka < l.length ∧ l.length ≤ 1000000 ∧ impl_Mro.f (l.take (ka + 1)) = some (r1, bad) ∧ ((0 ≤ bad ∧ bad ≠ (ka : Int)) ∨ (bad = -1 ∧ r1.length = ka + 1 ∧ FnaOk l ka O n kd v st (r1.getD ka []))))))) :
    Calls Try.prog 5 #[.slice A0 l0.length c0] w fun e w' => e = .returned (.bool true) ∧ Below w.heap.size w w' := by
  have HC := Aside0.mk hr0
  clear hr0
  have hu48 := Try.underlying48
  rcases hp with hb | ⟨hb, l, a1, O, n, kd, v, st, h1, h2, h3, h4, h5⟩
  · have CB := Aside0.mk (fun W hW => laws_big.calls A0 c0 l0 true W hW hc0 hb)
    clear hb
    go_enter Try.func5, Try.ntmps5
    go_wp2_with fail
    refine (CB.out _ HC.out).mono ?_
    rintro e w1 ⟨rfl, hb⟩
    have hb := hb.below
    go_wp2
    go_ret
    exact ⟨rfl, hb⟩
  have CB := Aside0.mk (fun W hW => laws_big.calls A0 c0 l0 false W hW hc0 hb)
  have CD := Aside0.mk (fun W hW => spec_DrawAttrGet.calls k A0 c0 l0 l a1 O n W hW hc0 h1)
  have CG := Aside0.mk (fun A c B d W hW hc hV hd => impl_AttrGet.calls k A c l a1 B d O n kd v W hW hc hV hd h2)
  have CS := Aside0.mk (fun A c B d W hW hc hV hd => impl_AttrSet.calls A c l a1 B d O n st W hW hc hV hd h3)
  have CP := Aside0.mk (fun A c B d W hW hc hV hd => spec_AttrGet.calls k A c l a1 B d O n kd v W hW hc hV hd h4)
  have H5 := Aside0.mk h5
  have HL0 := Aside0.mk (rfl : l.length = l.length)
  clear hb h1 h2 h3 h4 h5
  go_enter Try.func5, Try.ntmps5
  go_wp2_with fail
  refine (CB.out _ HC.out).mono ?_
  rintro e w1 ⟨rfl, hb⟩
  have HB := Aside0.mk hb.below
  clear hb CB
  go_wp2_with fail
  refine (CD.out _ (Kd.C_below HC.out HB.out)).mono ?_
  rintro e w2 ⟨v0, v2, rfl, hS, hR, hb⟩
  obtain ⟨Al, cl, rfl⟩ := Kd.S_slice hS
  obtain ⟨Ao, co, rfl⟩ := Kd.R_slice hR
  have HL := Aside0.mk (Kd.S_reads' hS).2.2
  have hcl := (Kd.S_reads' hS).2.1
  have HO := Aside0.mk (Kd.R_reads' hR).2.2
  have hco := (Kd.R_reads' hR).2.1
  have HB := Aside0.mk (below_step HB.out hb)
  clear hb hS hR CD HC
  go_wp2_with fail
  refine (CG.out Al cl Ao co _ HL.out hcl HO.out hco).mono ?_
  rintro e w3 ⟨rfl, hb⟩
  have HL := Aside0.mk (Kd.C_below HL.out hb)
  have HO := Aside0.mk (Kd.C_below HO.out hb)
  have HB := Aside0.mk (below_step HB.out hb)
  clear hb CG
  go_wp2_with fail
  refine (CS.out Al cl Ao co _ HL.out hcl HO.out hco).mono ?_
  rintro e w4 ⟨rfl, hb⟩
  have HL := Aside0.mk (Kd.C_below HL.out hb)
  have HO := Aside0.mk (Kd.C_below HO.out hb)
  have HB := Aside0.mk (below_step HB.out hb)
  clear hb CS
  go_wp2_with fail
  refine (CP.out Al cl Ao co _ HL.out hcl HO.out hco).mono ?_
  rintro e w5 ⟨rfl, hb⟩
  have HL := Aside0.mk (Kd.C_below HL.out hb)
  have HO := Aside0.mk (Kd.C_below HO.out hb)
  have HB := Aside0.mk (below_step HB.out hb)
  clear hb CP
  rcases H5.out with ⟨rfl, rfl, rfl⟩ | ⟨hkd, ka, r1, bad, rfl, hka, hlm, hmro, hfin⟩
  · clear H5
    go_wp2
    go_ret
    exact ⟨rfl, HB.out⟩
  have hkdb : (kd == -1) = false := by simpa using hkd
  have HTK := Aside0.mk (C_take HL.out (show ka + 1 ≤ l.length by omega))
  have htl : (l.take (ka + 1)).length = ka + 1 := by rw [List.length_take]; omega
  have CM := Aside0.mk (fun W hW => by have h := impl_Mro.calls Al cl (l.take (ka + 1)) r1 bad W (by rw [htl]; exact hW) (by omega) hmro; rw [htl] at h; exact h)
  have HF := Aside0.mk hfin
  have hk1 : (0 : Int) ≤ (ka : Int) + 1 := by omega
  have hk2 : (ka : Int) + 1 ≤ (cl : Int) := by omega
  have hk3 : ((ka : Int) + 1).toNat = ka + 1 := by omega
  clear H5 hkd hmro hfin htl
  obtain ⟨nl, hnl⟩ : ∃ m, l.length = m := ⟨_, rfl⟩
  obtain ⟨no, hno⟩ : ∃ m, O.length = m := ⟨_, rfl⟩
  have HNL := Aside0.mk hnl
  have HNO := Aside0.mk hno
  rw [hnl] at HL hcl hka hlm ⊢
  rw [hno] at HO hco ⊢
  clear hnl hno
  go_wp2_with fail
  refine (CM.out _ HTK.out).mono ?_
  rintro e w6 ⟨v0, rfl, hS, hb⟩
  obtain ⟨Am, cm, rfl⟩ := Kd.S_slice hS
  have HLN := Aside0.mk (Kd.S_reads' hS).2.2
  have HL := Aside0.mk (Kd.C_below HL.out hb)
  have HO := Aside0.mk (Kd.C_below HO.out hb)
  have HB := Aside0.mk (below_step HB.out hb)
  clear hb hS CM HTK
  rcases HF.out with ⟨hb0, hbk⟩ | ⟨rfl, hr1, hok⟩
  · have hbb : decide (0 ≤ bad) = true := decide_eq_true hb0
    have hbn : (bad != (ka : Int)) = true := by simpa using hbk
    clear HF hb0 hbk
    go_wp2
    go_ret
    exact ⟨rfl, HB.out⟩
  obtain ⟨line, hline⟩ : ∃ L, r1.getD ka [] = L := ⟨_, rfl⟩
  rw [hline] at hok
  have HR1 := Aside0.mk hr1
  have HOK := Aside0.mk hok
  clear HF hok
  obtain ⟨am, A1, c1, rfl, z0, z1, z2⟩ := at_L1 HLN.out (ka : Int) (by omega) (by omega)
  rw [show rd_L1 r1 (ka : Int) = line from hline] at z0 z1 z2
  rw [Int.toNat_natCast] at z0
  rw [hr1]
  clear hline hr1
  obtain ⟨m, hm⟩ : ∃ m, line.length = m := ⟨_, rfl⟩
  have HM := Aside0.mk hm
  have hmm : m ≤ 1000000 := by rw [← hm]; exact HOK.out.1
  rw [hm] at z0 z1
  have HLI := Aside0.mk (show (Kd.int .i64).C w6 A1 m line by rw [← hm]; exact z2)
  clear hm z2
  --TAIL
  have hA1 : ∃ al, A1 = some al ∨ m = 0 := by
    by_cases h : m = 0
    · exact ⟨⟨0, 0, none⟩, Or.inr h⟩
    · obtain ⟨al, e, _⟩ := Kd.at_int HLI.out 0 (by omega) (by omega)
      exact ⟨al, Or.inl e⟩
  have z0b := pw_cell_below (below_alloc (Below.refl w6.heap.size w6) (.cells #[.string (⟨#[]⟩ : ByteArray), .int .i64 (-1), .int .i64 0] 48)) z0
  go_wp2_with fail
  have HBX := Aside0.mk (heap_alloc_new w6 (.cells #[.string (⟨#[]⟩ : ByteArray), .int .i64 (-1), .int .i64 0] 48))
  have HB6 := Aside0.mk (below_alloc (Below.refl w6.heap.size w6) (.cells #[.string (⟨#[]⟩ : ByteArray), .int .i64 (-1), .int .i64 0] 48))
  have hgb : w6.heap.size ≤ w6.heap.size := Nat.le_refl _
  have GE := Aside0.mk hgb
  have hgl : w6.heap.size < (w6.alloc (.cells #[.string (⟨#[]⟩ : ByteArray), .int .i64 (-1), .int .i64 0] 48)).heap.size := by simp
  generalize w6.alloc (.cells #[.string (⟨#[]⟩ : ByteArray), .int .i64 (-1), .int .i64 0] 48) = W1 at *
  obtain ⟨gb, hgbe⟩ : ∃ g, w6.heap.size = g := ⟨_, rfl⟩
  have GE := Aside0.mk (show w6.heap.size ≤ gb by omega)
  rw [hgbe] at HBX hgl ⊢
  clear hgb hgbe
  go_loopg [15] m (fun kq v15 w' => ∃ (i : Nat) (iv : Int) (b : S48), v15 = .int .i64 iv ∧ iv = (i : Int) - 1 ∧ i = kq ∧ i ≤ m ∧ Aside0 (lineBox l n (line.drop i) = b) ∧ Aside0 (w'.heap[gb]? = some (.cells #[.string b.f0, .int .i64 b.f1, .int .i64 b.f2] 48)) ∧ Aside0 (Below w6.heap.size w6 w'))
  case atStart => exact ⟨m, (m : Int) - 1, ⟨⟨#[]⟩, -1, 0⟩, by first | rfl | simp, rfl, rfl, Nat.le_refl _, ⟨by rw [List.drop_eq_nil_iff.2 (by rw [HM.out]; exact Nat.le_refl _)]; rfl⟩, HBX, HB6⟩
  case round =>
    clear HBX HB6 z0b
    obtain ⟨i, iv, b, rfl, hiv, rfl, him, HLB, HBX, HB6⟩ := hrel
    by_cases hi : 0 < i
    · obtain ⟨j, rfl⟩ : ∃ q, i = q + 1 := ⟨i - 1, by omega⟩
      obtain rfl : iv = (j : Int) := by omega
      have hjm : j < m := by omega
      clear hiv
      obtain ⟨al, rfl, y0⟩ := Kd.at_int (Kd.C_below HLI.out HB6.out) (j : Int) (by omega) (by omega)
      have hjL : j < line.length := by rw [HM.out]; exact hjm
      rw [rdI line j hjL, Int.toNat_natCast] at y0
      have hcr := HOK.out.2.1 _ (List.getElem_mem hjL)
      have HDR := Aside0.mk (lineBox_drop l n line j hjL)
      have z0 := pw_cell_below HB6.out z0
      obtain ⟨cc, hcc⟩ : ∃ c : Nat, line[j] = (c : Int) := ⟨(line[j]).toNat, by omega⟩
      rw [hcc] at y0 hcr HDR
      have hccL : cc < l.length := by omega
      obtain ⟨ad, B0, d0, B1, d1, rfl, q0, q1, e0, g0, e1, g1⟩ := at_T41 HL.out (cc : Int) (by omega) (by rw [← HNL.out]; omega)
      have hle := HOK.out.2.2.1 _ (List.getElem_mem hccL)
      rw [rd41 l cc hccL] at HDR
      rw [rd41 l cc hccL, Int.toNat_natCast] at q1
      rw [rd41 l cc hccL] at e1 g1
      obtain ⟨as_, has⟩ : ∃ x, l[cc].f1 = x := ⟨_, rfl⟩
      rw [has] at q1 e1 g1 hle HDR
      have hcn : (cc : Int) < (nl : Int) := by rw [← HNL.out]; omega
      have q1 := pw_cell_below HB6.out q1
      clear hcc hjL hccL has q0 e0 g0 hcr
      obtain ⟨na, hna⟩ : ∃ na, as_.length = na := ⟨_, rfl⟩
      have HNA := Aside0.mk hna
      rw [hna] at q1 e1 hle
      have G1 := Aside0.mk (show k48.C w6 B1 na as_ by rw [← hna]; exact g1)
      clear hna g1
      go_wp2_with fail
      go_loopg [17] na (fun kq2 v17 w' => ∃ (t : Nat) (b2 : S48), v17 = .int .i64 t ∧ t + kq2 = na ∧ Aside0 (lastIn n b (as_.take t) = b2) ∧ Aside0 (w'.heap[gb]? = some (.cells #[.string b2.f0, .int .i64 b2.f1, .int .i64 b2.f2] 48)) ∧ Aside0 (Below w6.heap.size w6 w'))
      case atStart => exact ⟨0, b, rfl, by omega, ⟨rfl⟩, HBX, HB6⟩
      case round =>
        clear HBX
        obtain ⟨t, b2, rfl, htk, HLT, HBX, HB7⟩ := hrel
        by_cases ht : t < na
        · obtain ⟨kq2, rfl⟩ : ∃ q, gk = q + 1 := ⟨gk - 1, by omega⟩
          obtain ⟨ae, rfl, y0, y1, y2⟩ := at_T48 (Kd.C_below G1.out HB7.out) (t : Int) (by omega) (by omega)
          have htL : t < as_.length := by rw [HNA.out]; exact ht
          rw [rd48 as_ t htL, Int.toNat_natCast] at y0
          rw [rd48 as_ t htL, Int.toNat_natCast] at y1
          rw [rd48 as_ t htL, Int.toNat_natCast] at y2
          have hlt := lastIn_take n as_ b t htL
          rw [HLT.out] at hlt
          obtain ⟨at_, hat⟩ : ∃ a, as_[t] = a := ⟨_, rfl⟩
          rw [hat] at hlt y0 y1 y2
          obtain ⟨an, ak, av⟩ := at_
          simp only at y0 y1 y2
          have GBL := blk_lt HBX.out
          clear hat htL
          have x0 : wr.cell? ⟨gb, 0, none⟩ = some (.string b2.f0) := (blk_cell HBX.out 0).trans rfl
          have x1 : wr.cell? ⟨gb, 1, none⟩ = some (.int .i64 b2.f1) := (blk_cell HBX.out 1).trans rfl
          have x2 : wr.cell? ⟨gb, 2, none⟩ = some (.int .i64 b2.f2) := (blk_cell HBX.out 2).trans rfl
          have f0 := blk_frozen HBX.out 0
          have f1 := blk_frozen HBX.out 1
          have f2 := blk_frozen HBX.out 2
          by_cases hh : (an.toList == n.toList) = true
          · rw [if_pos (show hit n ⟨an, ak, av⟩ = true from hh)] at hlt
            have HLT2 := Aside0.mk hlt
            clear hlt HLT
            go_wp2_with fail
            go_roundg kq2
            case measure => omega
            case rel => exact ⟨t + 1, ⟨an, ak, av⟩, by first | rfl | simp, by omega, HLT2, ⟨by
              refine blk_put (cs := #[.string an, .int .i64 ak, .int .i64 b2.f2]) ?_ 2 _ rfl
              refine blk_put (cs := #[.string an, .int .i64 b2.f1, .int .i64 b2.f2]) ?_ 1 _ rfl
              refine blk_put (cs := #[.string b2.f0, .int .i64 b2.f1, .int .i64 b2.f2]) ?_ 0 _ rfl
              exact HBX.out⟩, ⟨below_set (below_set (below_set HB7.out GE.out) GE.out) GE.out⟩⟩
          · have hh2 : (an.toList == n.toList) = false := by simpa using hh
            rw [if_neg (show ¬ hit n ⟨an, ak, av⟩ = true from hh)] at hlt
            have HLT2 := Aside0.mk hlt
            clear hlt HLT hh
            go_wp2_with fail
            go_roundg kq2
            case measure => omega
            case rel => exact ⟨t + 1, b2, by first | rfl | simp, by omega, HLT2, HBX, HB7⟩
        · have htn : t = na := by omega
          subst htn
          have HLB2 := Aside0.mk (show lineBox l n (line.drop j) = b2 by
            rw [HDR.out, HLB.out, ← HLT.out, List.take_of_length_le (by rw [HNA.out]; exact Nat.le_refl _)])
          go_wp2_with fail
          go_roundg j
          case measure => omega
          case rel => exact ⟨j, (j : Int) - 1, b2, by first | rfl | simp, rfl, rfl, by omega, HLB2, HBX, HB7⟩
    · obtain rfl : i = 0 := by omega
      obtain rfl : iv = -1 := by omega
      clear hiv hi him
      rw [List.drop_zero] at HLB
      go_wp2_with fail
      have hnol : no ≤ 1000000 := by rw [← HNO.out]; exact HOK.out.2.2.2.1
      go_loopg [18, 19] no (fun kq v18 v19 w' => ∃ (j : Nat) (mi : Int), v18 = .int .i64 mi ∧ v19 = .int .i64 j ∧ j + kq = no ∧ Aside0 (mineOf n O j = mi) ∧ Aside0 (w'.heap[gb]? = some (.cells #[.string b.f0, .int .i64 b.f1, .int .i64 b.f2] 48)) ∧ Aside0 (Below w6.heap.size w6 w'))
      case atStart => exact ⟨0, -1, rfl, rfl, by omega, ⟨rfl⟩, HBX, HB6⟩
      case round =>
        clear HBX HB6
        obtain ⟨j, mi, rfl, rfl, hjk, HMI, HBX, HB6⟩ := hrel
        by_cases hj : j < no
        · obtain ⟨kq, rfl⟩ : ∃ q, gk = q + 1 := ⟨gk - 1, by omega⟩
          obtain ⟨ae, rfl, y0, y1, y2⟩ := at_T48 (Kd.C_below HO.out HB6.out) (j : Int) (by omega) (by omega)
          have hjL : j < O.length := by rw [HNO.out]; exact hj
          rw [rd48 O j hjL, Int.toNat_natCast] at y0
          have hmi : mineOf n O (j + 1) = if hit n O[j] = true then (j : Int) else mi := by
            rw [mineOf, HMI.out, List.getD_eq_getElem?_getD, List.getElem?_eq_getElem hjL]
            rfl
          obtain ⟨at_, hat⟩ : ∃ a, O[j] = a := ⟨_, rfl⟩
          rw [hat] at hmi y0
          obtain ⟨an, ak, av⟩ := at_
          simp only at y0
          clear hat hjL y1 y2
          by_cases hh : (an.toList == n.toList) = true
          · rw [if_pos (show hit n ⟨an, ak, av⟩ = true from hh)] at hmi
            have HMI2 := Aside0.mk hmi
            clear hmi HMI
            go_wp2_with fail
            go_roundg kq
            case measure => omega
            case rel => exact ⟨j + 1, (j : Int), rfl, by first | rfl | simp, by omega, HMI2, HBX, HB6⟩
          · have hh2 : (an.toList == n.toList) = false := by simpa using hh
            rw [if_neg (show ¬ hit n ⟨an, ak, av⟩ = true from hh)] at hmi
            have HMI2 := Aside0.mk hmi
            clear hmi HMI hh
            go_wp2_with fail
            go_roundg kq
            case measure => omega
            case rel => exact ⟨j + 1, mi, rfl, by first | rfl | simp, by omega, HMI2, HBX, HB6⟩
        · obtain rfl : j = no := by omega
          have hfin := HOK.out.2.2.2.2
          rw [HLB.out, HNO.out, HMI.out] at hfin
          obtain ⟨hst, hK1, hpos, hneg⟩ := hfin
          have x0 : wr.cell? ⟨gb, 0, none⟩ = some (.string b.f0) := (blk_cell HBX.out 0).trans rfl
          have x1 : wr.cell? ⟨gb, 1, none⟩ = some (.int .i64 b.f1) := (blk_cell HBX.out 1).trans rfl
          have x2 : wr.cell? ⟨gb, 2, none⟩ = some (.int .i64 b.f2) := (blk_cell HBX.out 2).trans rfl
          have GBL := blk_lt HBX.out
          have HBE := Aside0.mk (below_step HB.out HB6.out)
          obtain ⟨bn, bk, bv⟩ := b
          simp only at x0 x1 x2 hst hK1 hpos hneg
          by_cases h1 : bk = 1
          · obtain ⟨rfl, rfl⟩ := hK1 h1
            obtain rfl : st = 2 := by rcases hst with ⟨_, h⟩ | ⟨h, _⟩; · exact absurd h1 h
                                      · exact h
            subst h1
            clear hst hK1 hpos hneg
            go_wp2
            go_ret
            exact ⟨rfl, HBE.out⟩
          · obtain rfl : st = 1 := by rcases hst with ⟨h, _⟩ | ⟨_, h⟩; · exact h
                                      · exact absurd h h1
            have hb1 : (bk == 1) = false := by simpa using h1
            have hpos := hpos h1
            have hneg := hneg h1
            clear hst hK1
            by_cases hm0 : mi < 0
            · have hmb : decide (0 ≤ mi) = false := decide_eq_false (by omega)
              obtain ⟨g2, g0, gn⟩ := hneg hm0
              clear hpos hneg
              by_cases h2 : bk = 2
              · obtain ⟨rfl, rfl⟩ := g2 h2
                subst h2
                clear g2 g0 gn h1
                go_wp2
                go_ret
                exact ⟨rfl, HBE.out⟩
              · by_cases h0 : bk = 0
                · obtain ⟨rfl, rfl⟩ := g0 h0
                  subst h0
                  clear g2 g0 gn h1 h2
                  go_wp2
                  go_ret
                  exact ⟨rfl, HBE.out⟩
                · obtain ⟨rfl, rfl⟩ := gn h2 h0
                  have hb2 : (bk == 2) = false := by simpa using h2
                  have hb0 : (bk == 0) = false := by simpa using h0
                  clear g2 g0 gn h1 h2 h0
                  go_wp2
                  go_ret
                  exact ⟨rfl, HBE.out⟩
            · obtain ⟨mm, rfl⟩ : ∃ mm : Nat, mi = (mm : Int) := ⟨mi.toNat, by omega⟩
              obtain ⟨hmn, rfl, hv⟩ := hpos mm rfl
              clear hpos hneg
              have hmL : mm < O.length := by rw [HNO.out]; exact hmn
              obtain ⟨ae, rfl, y0, y1, y2⟩ := at_T48 (Kd.C_below HO.out HB6.out) (mm : Int) (by omega) (by omega)
              rw [rd48 O mm hmL, Int.toNat_natCast] at y2
              rw [List.getD_eq_getElem?_getD, List.getElem?_eq_getElem hmL] at hv
              simp only [Option.getD_some] at hv
              rw [← hv] at y2
              clear hv hmL y0 y1
              go_wp2
              go_ret
              exact ⟨rfl, HBE.out⟩

end Go.Proofs.Ytkclfbmgnhmkhaa.PC
