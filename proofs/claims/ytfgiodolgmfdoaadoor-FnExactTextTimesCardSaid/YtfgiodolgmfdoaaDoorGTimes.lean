/- What the program's and the reference's TextTimes come to, and the walk of the law on them: over the shelf's contracts of utf8.ValidString and strings.Repeat. No condition beyond those of the theorems. -/
import Derived.Test.YtfgiodolgmfdoaaDoorGText
import Derived.Test.YtfgiodolgmfdoaaDoorUtf
namespace Go.Proofs.YtfgiodolgmfdoaaDoor.PT
open Go.RowKit Go.Shelf Go.Proofs.YtfgiodolgmfdoaaDoorW.PrintWords Go.Proofs.YtfgiodolgmfdoaaDoorW.PrintLast
set_option linter.unusedVariables false
set_option linter.unusedSimpArgs false

theorem X105 : Builder.Extra Tryd.prog Tryd.lays105_ren := { sizeBuilder := by kernel_rfl, liesBuilder := by kernel_rfl, t5 := Tryd.underlying5, a5 := Tryd.isAgg5, z5 := Tryd.sizeOf5, v5 := Tryd.zeroValue5, infoByte := by kernel_rfl, cellsByte := by kernel_rfl, sizeByte := by kernel_rfl, neB5 := by decide }

def timesS (s : ByteArray) (n : Int) : ByteArray := if okB s = true ∧ 1 ≤ n ∧ n.toNat * s.size ≤ 16384 then ⟨(Lib.repeatL s.data.toList n.toNat).toArray⟩ else ⟨#[]⟩
def timesE (s : ByteArray) (n : Int) : Int := if okB s = true then (if 1 ≤ n ∧ 16384 < n.toNat * s.size then 3 else 0) else 1

theorem quo_iff (n : Int) (z : Nat) (hz : 0 < z) (hn : 1 ≤ n) : n > (16384 : Int) / (z : Int) ↔ 16384 < n.toNat * z := by
  have h1 : n > (16384 : Int) / (z : Int) ↔ (16384 : Int) < n * z := Int.ediv_lt_iff_lt_mul (by omega)
  rw [h1]
  have h2 : (n.toNat : Int) = n := Int.toNat_of_nonneg (by omega)
  constructor
  · intro h
    have : (16384 : Int) < ((n.toNat * z : Nat) : Int) := by rw [Int.natCast_mul, h2]; exact h
    omega
  · intro h
    have : (16384 : Int) < ((n.toNat * z : Nat) : Int) := by omega
    rw [Int.natCast_mul, h2] at this
    exact this

theorem ne_empty (s : ByteArray) (h : ¬ s.size = 0) : s.toList.isEmpty = false := by
  rw [Go.Lib.toList_data]
  cases hh : s.data.toList with
  | nil =>
    have := congrArg List.length hh
    rw [data_length] at this
    exact absurd this h
  | cons a l => rfl

theorem empty_of (s : ByteArray) (h : s.size = 0) : s = ⟨#[]⟩ := by
  cases s with
  | mk d =>
    congr 1
    exact Array.eq_empty_of_size_eq_zero h

set_option maxHeartbeats 2000000 in
set_option maxRecDepth 1000000 in
theorem implTimes_calls (s : ByteArray) (n : Int) (w : World) (hs : s.size ≤ 9223372036854775807) (hn : n ≤ 9223372036854775807) (hT : Tabs w) :
    Calls Tryd.prog 25 #[.string s, .int .i64 n] w fun e w' => e = .returned (.tuple #[.string (timesS s n), .int .i64 (timesE s n)]) ∧ Below w.heap.size w w' := by
  have cO := implOk_calls s w hs hT
  unfold timesS timesE
  generalize okB s = V at cO ⊢
  cases V with
  | false =>
    rw [if_neg (by simp), if_neg (by simp)]
    go_enter Tryd.func25, Tryd.ntmps25
    go_wp2_with fail
    refine cO.mono ?_
    rintro e w1 ⟨rfl, hb⟩
    go_wp2
    go_ret2
    exact ⟨rfl, hb⟩
  | true =>
    rw [if_pos rfl]
    by_cases h1 : n < 1
    · rw [if_neg (by omega), if_neg (by omega)]
      go_enter Tryd.func25, Tryd.ntmps25
      go_wp2_with fail
      refine cO.mono ?_
      rintro e w1 ⟨rfl, hb⟩
      go_wp2
      go_ret2
      exact ⟨rfl, hb⟩
    · obtain ⟨c, rfl⟩ : ∃ c : Nat, n = c := ⟨n.toNat, by omega⟩
      rw [Int.toNat_natCast]
      by_cases h2 : s.size = 0
      · obtain rfl := empty_of s h2
        have e1 : (Lib.repeatL (⟨#[]⟩ : ByteArray).data.toList c) = [] := Lib.repeatL_nil c
        have e2 : c * (⟨#[]⟩ : ByteArray).size = 0 := by rw [h2, Nat.mul_zero]
        rw [if_pos ⟨rfl, by omega, by omega⟩, if_neg (by omega), e1]
        clear e1 e2
        go_enter Tryd.func25, Tryd.ntmps25
        go_wp2_with fail
        refine cO.mono ?_
        rintro e w1 ⟨rfl, hb⟩
        go_wp2
        go_ret2
        exact ⟨rfl, hb⟩
      · have hie : s.toList.isEmpty = false := ne_empty s h2
        have hq := quo_iff (c : Int) s.size (by omega) (by omega)
        rw [Int.toNat_natCast] at hq
        by_cases h3 : (c : Int) > (16384 : Int) / (s.size : Int)
        · have h4 := hq.1 h3
          rw [if_neg (by omega), if_pos ⟨by omega, h4⟩]
          clear h4 hq
          go_enter Tryd.func25, Tryd.ntmps25
          go_wp2_with fail
          refine cO.mono ?_
          rintro e w1 ⟨rfl, hb⟩
          go_wp2
          go_ret2
          exact ⟨rfl, hb⟩
        · have h4 : c * s.size ≤ 16384 := by
            refine Classical.byContradiction fun hh => h3 (hq.2 (by omega))
          rw [if_pos ⟨rfl, by omega, h4⟩, if_neg (by omega)]
          have H4 := Aside0.mk h4
          clear h4 hq
          go_enter Tryd.func25, Tryd.ntmps25
          go_wp2_with fail
          refine cO.mono ?_
          rintro e w1 ⟨rfl, hb⟩
          have HB := Aside0.mk hb
          clear hb cO
          have cR : Calls Tryd.prog 60 #[.string s, .int .i64 (c : Int)] w1 _ := Any.strings_Repeat Tryd.lays105 X105 s c w1 (by omega) (by have := H4.out; rw [Nat.mul_comm]; omega)
          go_wp2_with fail
          refine cR.mono ?_
          rintro e w2 ⟨rfl, hb⟩
          have HB2 := Aside0.mk (below_step HB.out hb)
          clear hb
          go_wp2
          go_ret2
          exact ⟨rfl, HB2.out⟩

/-! ### The reference's -/
def repB (s : ByteArray) : Nat → List Int
  | 0 => []
  | i + 1 => repB s i ++ bytesOf s
theorem repB_length (s : ByteArray) : ∀ i, (repB s i).length = i * s.size
  | 0 => by simp [repB]
  | i + 1 => by
    rw [repB, List.length_append, repB_length s i, bytesOf_length, Nat.succ_mul]

theorem rep_comm (l : List UInt8) : ∀ c, Lib.repeatL l c ++ l = l ++ Lib.repeatL l c
  | 0 => by simp [Lib.repeatL]
  | c + 1 => by
    rw [Lib.repeatL, List.append_assoc, rep_comm l c]

theorem num_back (s : ByteArray) : (bytesOf s).map (fun n => UInt8.ofNat n.toNat) = s.data.toList := by
  unfold bytesOf
  rw [List.map_map]
  conv => rhs; rw [← List.map_id s.data.toList]
  apply List.map_congr_left
  intro b _
  simp

theorem rep_str (s : ByteArray) (c : Nat) : strOfNums (repB s c) = ⟨(Lib.repeatL s.data.toList c).toArray⟩ := by
  have : (repB s c).map (fun n => UInt8.ofNat n.toNat) = Lib.repeatL s.data.toList c := by
    induction c with
    | zero => rfl
    | succ c ih => rw [repB, List.map_append, ih, num_back, Lib.repeatL, rep_comm]
  unfold strOfNums
  rw [this]

set_option maxHeartbeats 2000000 in
set_option maxRecDepth 1000000 in
theorem specTimes_calls (s : ByteArray) (n : Int) (w : World) (hk : spec_TextOk.f 400000 s = some (okB s)) :
    Calls Tryd.prog 24 #[.string s, .int .i64 n] w fun e w' => e = .returned (.tuple #[.string (timesS s n), .int .i64 (timesE s n)]) ∧ Below w.heap.size w w' := by
  have cO := spec_TextOk.calls 400000 s _ w hk
  unfold timesS timesE
  generalize hV : okB s = V at cO ⊢
  clear hk
  cases V with
  | false =>
    rw [if_neg (by simp), if_neg (by simp)]
    go_enter Tryd.func24, Tryd.ntmps24
    go_wp2_with fail
    refine cO.mono ?_
    rintro e w1 ⟨rfl, hb⟩
    go_wp2
    go_ret2
    exact ⟨rfl, hb⟩
  | true =>
    rw [if_pos rfl]
    have hsz : s.size ≤ 16384 := by
      unfold okB at hV
      rw [Bool.and_eq_true, decide_eq_true_eq] at hV
      exact hV.1
    clear hV
    obtain ⟨R1, hR1⟩ : ∃ R1 : ByteArray, (if true = true ∧ 1 ≤ n ∧ n.toNat * s.size ≤ 16384 then (⟨(Lib.repeatL s.data.toList n.toNat).toArray⟩ : ByteArray) else ⟨#[]⟩) = R1 := ⟨_, rfl⟩
    obtain ⟨R2, hR2⟩ : ∃ R2 : Int, (if 1 ≤ n ∧ 16384 < n.toNat * s.size then (3 : Int) else 0) = R2 := ⟨_, rfl⟩
    rw [hR1, hR2]
    have HR1 := Aside0.mk hR1
    have HR2 := Aside0.mk hR2
    clear hR1 hR2
    have kb := fun W => print_bytes (P := Tryd.prog) 9 41 5 Tryd.underlying9 Tryd.underlying41 Tryd.underlying5 s W
    go_enter Tryd.func24, Tryd.ntmps24
    go_wp2_with fail
    refine cO.mono ?_
    rintro e w1 ⟨rfl, hb⟩
    have HB := Aside0.mk hb
    clear hb cO
    go_wp2_with (first | ((with_reducible refine gate_dst (N := 11) rfl ?_); refine Kd.R_lit (Kd.int .u8) _ 5 ?hg (N := 11) ?hd (xs := ([] : List Int)) (inner := []) (ok := fun _ => True) (okp := fun _ => True) ?hr ?hp (fun _ hk => hk) trivial (Below.refl _ _) (Nat.le_refl _) (by simp) ?_; (case hd => rfl); (case hg => rfl); (case hr => first | (go_simp; done) | (go_simp; rfl)); (case hp => exact (Reps.none _ _)); intro v102 w3 ho4 hb hg_ hnew_; clear hg_ hnew_; have n0_ := Aside0.mk (Kd.R_lower ho4 HB.out.size); have n1_ := Aside0.mk (below_step HB.out hb); clear HB; have HO := n0_; have HB := n1_; clear n0_ n1_; clear hb ho4))
    go_loopg [6, 7] 16385 (fun kq v6 v7 w' => ∃ i : Nat, v7 = .int .i64 i ∧ i + kq = 16385 ∧ ((i : Int) ≤ n ∨ i = 0) ∧ Aside0 (i * s.size ≤ 16384) ∧ Aside0 (Kd.R (Kd.int .u8) 5 w' w.heap.size (fun _ => True) v6 (repB s i)) ∧ Aside0 (Below w.heap.size w w'))
    case atStart => exact ⟨0, rfl, rfl, Or.inr rfl, ⟨by omega⟩, HO, HB⟩
    case round =>
      clear HO HB
      obtain ⟨i, rfl, hik, hin, HM, HO, HB⟩ := hrel
      obtain ⟨A1, c1, rfl, hc1, hC1⟩ := Kd.R_reads HO.out
      have HL := Aside0.mk (repB_length s i)
      rw [HL.out] at hc1 hC1
      have hlen := HL.out
      generalize hm : (repB s i).length = m at *
      have HMM := Aside0.mk hm
      clear hm hlen hC1 hc1
      by_cases hgo : (i : Int) < n ∧ 0 < s.size
      · obtain ⟨g1, g2⟩ := hgo
        have g2z : (0 : Int) < (s.size : Int) := by omega
        obtain ⟨kq, rfl⟩ : ∃ q, gk = q + 1 := ⟨gk - 1, by
          have h1 := HM.out
          have h2 : i * 1 ≤ i * s.size := Nat.mul_le_mul_left i g2
          omega⟩
        have HNX := Aside0.mk (show (i + 1) * s.size = m + s.size by rw [Nat.succ_mul, HL.out])
        by_cases hbig : m + s.size > 16384
        · have hbigz : ((m + s.size : Nat) : Int) > 16384 := by omega
          have hres : R1 = ⟨#[]⟩ ∧ R2 = 3 := by
            have hle : (i + 1) * s.size ≤ n.toNat * s.size := Nat.mul_le_mul_right _ (by omega)
            have e := HNX.out
            refine ⟨?_, ?_⟩
            · rw [← HR1.out, if_neg (by omega)]
            · rw [← HR2.out, if_pos (by omega)]
          obtain ⟨rfl, rfl⟩ := hres
          clear HR1 HR2
          go_wp2_with (first | ((with_reducible refine gate_builtin (b := .append) (xs := #[.tmp 22, .tmp 24]) rfl ?_); at_builtin; refine print_append_row (w0 := w) w.heap.size rfl (.tmp 22) (.tmp 24) 41 5 .u8 1 rfl Tryd.underlying41 (by kernel_rfl) (by omega) (.slice A1 m c1) (repB s i) (bytesOf s) (some ⟨wr.heap.size, 0, none⟩) s.size (grownCap wr s.size 0 5) rfl rfl ?aO ?aR ?aB ?aS ?aL ?_; (case aO => exact Kd.own_of_R (Kd.R_below HO.out (bytes_below (Below.refl _ _) (Nat.le_refl _) 5 s))); (case aR => exact bytes_reads wr 5 s (by omega)); (case aB => exact bytes_below HB.out HB.out.size 5 s); (case aS => exact Nat.le_trans HB.out.size (bytes_below (Below.refl _ _) (Nat.le_refl _) 5 s).size); (case aL => rw [HMM.out]; have := HL.out; have := HM.out; omega); intro v1 w3 ho3 hb3 hg3 hat3; obtain ⟨A3, c3, hv3⟩ := own_slice ho3; have hl3 : (repB s i ++ bytesOf s).length = m + s.size := (by rw [List.length_append, bytesOf_length, HMM.out]); rw [hl3] at hv3; subst hv3; have HO3 := Aside0.mk ho3; have HB3 := Aside0.mk hb3; clear ho3 hb3 hg3 hat3 hl3))
          go_ret2
          exact ⟨rfl, HB3.out⟩
        · have hbigz : ¬ (16384 : Int) < (m : Int) + (s.size : Int) := by omega
          go_wp2_with (first | ((with_reducible refine gate_builtin (b := .append) (xs := #[.tmp 22, .tmp 24]) rfl ?_); at_builtin; refine print_append_row (w0 := w) w.heap.size rfl (.tmp 22) (.tmp 24) 41 5 .u8 1 rfl Tryd.underlying41 (by kernel_rfl) (by omega) (.slice A1 m c1) (repB s i) (bytesOf s) (some ⟨wr.heap.size, 0, none⟩) s.size (grownCap wr s.size 0 5) rfl rfl ?aO ?aR ?aB ?aS ?aL ?_; (case aO => exact Kd.own_of_R (Kd.R_below HO.out (bytes_below (Below.refl _ _) (Nat.le_refl _) 5 s))); (case aR => exact bytes_reads wr 5 s (by omega)); (case aB => exact bytes_below HB.out HB.out.size 5 s); (case aS => exact Nat.le_trans HB.out.size (bytes_below (Below.refl _ _) (Nat.le_refl _) 5 s).size); (case aL => rw [HMM.out]; have := HL.out; have := HM.out; omega); intro v1 w3 ho3 hb3 hg3 hat3; obtain ⟨A3, c3, hv3⟩ := own_slice ho3; have hl3 : (repB s i ++ bytesOf s).length = m + s.size := (by rw [List.length_append, bytesOf_length, HMM.out]); rw [hl3] at hv3; subst hv3; have HO3 := Aside0.mk ho3; have HB3 := Aside0.mk hb3; clear ho3 hb3 hg3 hat3 hl3))
          have HO4 := Aside0.mk (show Kd.R (Kd.int .u8) 5 w3 w.heap.size (fun _ => True) (.slice A3 (m + s.size) c3) (repB s (i + 1)) from Kd.R_of_own HO3.out (fun _ _ => trivial))
          have HM2 := Aside0.mk (show (i + 1) * s.size ≤ 16384 by rw [HNX.out]; omega)
          clear HNX HO3 HM HL HO HB HMM
          go_wp2
          go_roundg kq
          case measure => omega
          case rel => exact ⟨i + 1, by first | rfl | simp, by omega, Or.inl (by omega), HM2, HO4, HB3⟩
      · have hconv := own_string (P := Tryd.prog) (src := 41) (dst := 9) Tryd.underlying41 Tryd.underlying5 Tryd.underlying9 (Kd.own_of_R HO.out)
        have hres : R1 = strOfNums (repB s i) ∧ R2 = 0 := by
          have hM := HM.out
          rw [rep_str]
          by_cases h1 : 1 ≤ n
          · by_cases h2 : 0 < s.size
            · have hni : n.toNat = i := by omega
              refine ⟨?_, ?_⟩
              · rw [← HR1.out, hni, if_pos ⟨by simp, h1, hM⟩]
              · rw [← HR2.out, hni, if_neg (by omega)]
            · have hz : s.size = 0 := by omega
              have hnz : n.toNat * s.size = 0 := by rw [hz, Nat.mul_zero]
              obtain rfl := empty_of s hz
              refine ⟨?_, ?_⟩
              · rw [← HR1.out, if_pos ⟨by simp, h1, by omega⟩]
                rw [show (⟨#[]⟩ : ByteArray).data.toList = [] from rfl, Lib.repeatL_nil, Lib.repeatL_nil]
              · rw [← HR2.out, if_neg (by omega)]
          · have hi0 : i = 0 := by omega
            subst hi0
            refine ⟨?_, ?_⟩
            · rw [← HR1.out, if_neg (by omega)]
              rfl
            · rw [← HR2.out, if_neg (by omega)]
        obtain ⟨rfl, rfl⟩ := hres
        clear HR1 HR2 HO HL HM
        by_cases g1 : (i : Int) < n
        · have g2 : ¬ (0 : Int) < (s.size : Int) := fun h => hgo ⟨g1, by omega⟩
          clear hgo hin hik
          go_wp2
          go_ret2
          exact ⟨rfl, HB.out⟩
        · clear hgo hin hik
          go_wp2
          go_ret2
          exact ⟨rfl, HB.out⟩

set_option maxHeartbeats 1000000 in
set_option maxRecDepth 1000000 in
/-- The law on TextTimes. -/
theorem lawTimes_calls (P : ∀ s : ByteArray, spec_TextOk.f 400000 s = some (okB s)) (s : ByteArray) (n : Int) (w : World) (hn : n ≤ 9223372036854775807) (hT : Tabs w) :
    Calls Tryd.prog 5 #[.string s, .int .i64 n] w fun e w' => e = .returned (.bool true) ∧ Below w.heap.size w w' := by
  by_cases h0 : 1048576 < s.size
  · have h0z : (1048576 : Int) < (s.size : Int) := by omega
    go_enter Tryd.func5, Tryd.ntmps5
    go_wp2
    go_ret
    exact ⟨rfl, Below.refl _ _⟩
  · have h0z : ¬ ((1048576 : Int) < (s.size : Int)) := by omega
    have HT := Aside0.mk hT
    have cS := specTimes_calls s n w (P s)
    clear hT P
    go_enter Tryd.func5, Tryd.ntmps5
    go_wp2_with fail
    refine cS.mono ?_
    rintro e w1 ⟨rfl, hb⟩
    have HB := Aside0.mk hb
    have cI := implTimes_calls s n w1 (by omega) hn (HT.out.below hb)
    clear hb cS
    generalize timesS s n = V at *
    generalize timesE s n = E at *
    go_wp2_with fail
    refine cI.mono ?_
    rintro e w2 ⟨rfl, hb⟩
    have HB2 := Aside0.mk (below_step HB.out hb)
    clear hb cI
    go_wp2
    go_ret
    exact ⟨rfl, HB2.out⟩

end Go.Proofs.YtfgiodolgmfdoaaDoor.PT
