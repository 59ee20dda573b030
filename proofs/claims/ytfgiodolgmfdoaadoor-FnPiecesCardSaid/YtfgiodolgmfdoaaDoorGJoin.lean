/- What the reference's l3Join comes to: by hand. No condition beyond those of the theorems. -/
import Derived.Test.YtfgiodolgmfdoaaDoorGText
namespace Go.Proofs.YtfgiodolgmfdoaaDoor.PT
open Go.RowKit Go.Shelf Go.Proofs.YtfgiodolgmfdoaaDoorW.PrintWords Go.Proofs.YtfgiodolgmfdoaaDoorW.PrintLast
set_option linter.unusedVariables false
set_option linter.unusedSimpArgs false

/-- With the separator ahead, but for the first. -/
def ahead (sep : ByteArray) (i : Nat) (acc : List Int) : List Int := if i = 0 then acc else acc ++ bytesOf sep
def joinR (sep : ByteArray) : Nat → List Int → List ByteArray → List Int
  | _, acc, [] => acc
  | i, acc, x :: r => if 16384 < (ahead sep i acc ++ bytesOf x).length then ahead sep i acc ++ bytesOf x else joinR sep (i + 1) (ahead sep i acc ++ bytesOf x) r

def spec_l3Join.f (sep : ByteArray) (l : List ByteArray) : Option ByteArray := if sep.size ≤ 1000000 ∧ (∀ x ∈ l, x.size ≤ 1000000) ∧ l.length ≤ 2000000 then some (strOfNums (joinR sep 0 [] l)) else none

theorem rdOf_at (l : List ByteArray) (i : Nat) (hi : i < l.length) : l.drop i = l.getD i ByteArray.empty :: l.drop (i + 1) ∧ l.getD i ByteArray.empty ∈ l := by
  rw [List.drop_eq_getElem_cons hi]
  simp [List.getD_eq_getElem?_getD, List.getElem?_eq_getElem hi]

set_option maxHeartbeats 4000000 in
set_option maxRecDepth 1000000 in
theorem spec_l3Join.calls (a0 : ByteArray) (A1 : Option Addr) (c1 : Nat) (l1 : List ByteArray) (r : ByteArray) (w : World) (hr1 : Kd.C Kd.string w A1 l1.length l1) (hc1 : l1.length ≤ c1) (h : spec_l3Join.f a0 l1 = some r) :
    Calls Tryd.prog 58 #[.string a0, .slice A1 l1.length c1] w fun e w' => e = .returned (.string r) ∧ Below w.heap.size w w' := by
  unfold spec_l3Join.f at h
  split at h
  case isFalse => simp at h
  rename_i hcond
  obtain ⟨q0, q1, q2⟩ := hcond
  obtain rfl := Option.some.inj h
  clear h
  obtain ⟨R, hR⟩ : ∃ R, joinR a0 0 [] l1 = R := ⟨_, rfl⟩
  rw [hR]
  have HRR := Aside0.mk hR
  have Q1 := Aside0.mk q1
  have HC := Aside0.mk hr1
  clear hR q1 hr1
  generalize hN : l1.length = n at *
  have HN := Aside0.mk hN
  clear hN
  have HB := Aside0.mk (Below.refl w.heap.size w)
  have kb := fun (x : ByteArray) (W : World) => print_bytes (P := Tryd.prog) 9 41 5 Tryd.underlying9 Tryd.underlying41 Tryd.underlying5 x W
  go_enter Tryd.func58, Tryd.ntmps58
  go_wp2_with (first | ((with_reducible refine gate_dst (N := 7) rfl ?_); refine Kd.R_lit (Kd.int .u8) _ 5 ?hg (N := 7) ?hd (xs := ([] : List Int)) (inner := []) (ok := fun _ => True) (okp := fun _ => True) ?hr ?hp (fun _ hk => hk) trivial (Below.refl _ _) (Nat.le_refl _) (by simp) ?_; (case hd => rfl); (case hg => rfl); (case hr => first | (go_simp; done) | (go_simp; rfl)); (case hp => exact (Reps.none _ _)); intro v102 w3 ho4 hb hg_ hnew_; clear hg_ hnew_; have n0_ := Aside0.mk (Kd.R_lower ho4 HB.out.size); have n1_ := Aside0.mk (below_step HB.out hb); clear HB; have HO := n0_; have HB := n1_; clear n0_ n1_; clear hb ho4))
  go_loopg [5, 6] n (fun kq v5 v6 w' => ∃ (i : Nat) (acc : List Int), v6 = .int .i64 i ∧ i + kq = n ∧ Aside0 (joinR a0 i acc (l1.drop i) = R) ∧ Aside0 (acc.length ≤ 16384) ∧ Aside0 (Kd.R (Kd.int .u8) 5 w' w.heap.size (fun _ => True) v5 acc) ∧ Aside0 (Below w.heap.size w w'))
  case atStart => exact ⟨0, [], rfl, by omega, HRR, ⟨by simp⟩, HO, HB⟩
  case round =>
    clear HO HB HRR
    obtain ⟨i, acc, rfl, hik, HJ, HM, HO, HB⟩ := hrel
    obtain ⟨A2, c2, rfl, hc2, hC2⟩ := Kd.R_reads HO.out
    generalize hm : acc.length = m at *
    have HMM := Aside0.mk hm
    clear hm hC2
    by_cases hi : i < n
    · obtain ⟨hdrop, hmem⟩ := rdOf_at l1 i (by rw [HN.out]; exact hi)
      have H0 := HJ.out
      rw [hdrop] at H0
      have hxs := Q1.out _ hmem
      obtain ⟨ad, rfl, hcell⟩ := (Kd.reads_of_C (enc := Value.string) (d := ByteArray.empty) (h1 := fun _ => rfl) (Kd.C_below HC.out HB.out)).2.2 (by omega)
      have hrd : rdOf ByteArray.empty l1 i = l1.getD i ByteArray.empty := by simp [rdOf]
      have XK : Aside0 (∀ w', Below w.heap.size w w' → w'.cell? (ad.add i) = some (.string (l1.getD i ByteArray.empty))) := ⟨fun w' hb => by
        obtain ⟨ad', had, hcell'⟩ := (Kd.reads_of_C (enc := Value.string) (d := ByteArray.empty) (h1 := fun _ => rfl) (Kd.C_below HC.out hb)).2.2 (by omega)
        obtain rfl := Option.some.inj had
        rw [← hrd]
        exact hcell' i hi⟩
      clear hcell hdrop hmem HJ hrd
      generalize l1.getD i ByteArray.empty = x at *
      obtain ⟨kq, rfl⟩ : ∃ q, gk = q + 1 := ⟨gk - 1, by omega⟩
      simp only [joinR] at H0
      by_cases hz : i = 0
      · rw [show ahead a0 i acc = acc by simp [ahead, hz]] at H0
        have hnz : ¬ ((0 : Int) < (i : Int)) := by omega
        clear hz
        have x0 := XK.out wr HB.out
        have hm0 := HM.out
        by_cases hbig : 16384 < m + x.size
        · have hR : acc ++ bytesOf x = R := by
            rw [if_pos (by rw [List.length_append, bytesOf_length, HMM.out]; exact hbig)] at H0
            exact H0
          obtain rfl := hR
          clear H0
          have hbigz : (16384 : Int) < ((m + x.size : Nat) : Int) := by omega
          go_wp2_with (first | ((with_reducible refine gate_builtin (b := .append) (xs := #[.tmp 20, .tmp 25]) rfl ?_); at_builtin; refine print_append_row (w0 := w) w.heap.size rfl (.tmp 20) (.tmp 25) 41 5 .u8 1 rfl Tryd.underlying41 (by kernel_rfl) (by omega) (.slice A2 (m) c2) (acc) (bytesOf x) (some ⟨wr.heap.size, 0, none⟩) x.size (grownCap wr x.size 0 5) rfl rfl ?aO ?aR ?aB ?aS ?aL ?_; (case aO => exact Kd.own_of_R (Kd.R_below HO.out (bytes_below (Below.refl _ _) (Nat.le_refl _) 5 x))); (case aR => exact bytes_reads wr 5 x (by omega)); (case aB => exact bytes_below HB.out HB.out.size 5 x); (case aS => exact Nat.le_trans HB.out.size (bytes_below (Below.refl _ _) (Nat.le_refl _) 5 x).size); (case aL => rw [HMM.out]; have := HM.out; omega); intro v1 w8 ho3 hb3 hg3 hat3; obtain ⟨A8, c8, hv3⟩ := own_slice ho3; have hl3 : (acc ++ bytesOf x).length = m + x.size := (by rw [List.length_append, bytesOf_length, HMM.out]); rw [hl3] at hv3; subst hv3; have HO8 := Aside0.mk (show Kd.R (Kd.int .u8) 5 w8 w.heap.size (fun _ => True) (.slice A8 (m + x.size) c8) (acc ++ bytesOf x) from Kd.R_of_own ho3 (fun _ _ => trivial)); have HB8 := Aside0.mk hb3; have HM8 := Aside0.mk hl3; clear ho3 hb3 hg3 hat3 hl3; have hconv := own_string (P := Tryd.prog) (src := 41) (dst := 9) Tryd.underlying41 Tryd.underlying5 Tryd.underlying9 (Kd.own_of_R HO8.out)))
          go_ret
          exact ⟨by first | rfl | (rw [List.append_assoc]; rfl), HB8.out⟩
        · have hR : joinR a0 (i + 1) (acc ++ bytesOf x) (l1.drop (i + 1)) = R := by
            rw [if_neg (by rw [List.length_append, bytesOf_length, HMM.out]; exact hbig)] at H0
            exact H0
          have HJ := Aside0.mk hR
          clear H0 hR
          have hbigz : ¬ (16384 : Int) < ((m + x.size : Nat) : Int) := by omega
          go_wp2_with (first | ((with_reducible refine gate_builtin (b := .append) (xs := #[.tmp 20, .tmp 25]) rfl ?_); at_builtin; refine print_append_row (w0 := w) w.heap.size rfl (.tmp 20) (.tmp 25) 41 5 .u8 1 rfl Tryd.underlying41 (by kernel_rfl) (by omega) (.slice A2 (m) c2) (acc) (bytesOf x) (some ⟨wr.heap.size, 0, none⟩) x.size (grownCap wr x.size 0 5) rfl rfl ?aO ?aR ?aB ?aS ?aL ?_; (case aO => exact Kd.own_of_R (Kd.R_below HO.out (bytes_below (Below.refl _ _) (Nat.le_refl _) 5 x))); (case aR => exact bytes_reads wr 5 x (by omega)); (case aB => exact bytes_below HB.out HB.out.size 5 x); (case aS => exact Nat.le_trans HB.out.size (bytes_below (Below.refl _ _) (Nat.le_refl _) 5 x).size); (case aL => rw [HMM.out]; have := HM.out; omega); intro v1 w8 ho3 hb3 hg3 hat3; obtain ⟨A8, c8, hv3⟩ := own_slice ho3; have hl3 : (acc ++ bytesOf x).length = m + x.size := (by rw [List.length_append, bytesOf_length, HMM.out]); rw [hl3] at hv3; subst hv3; have HO8 := Aside0.mk (show Kd.R (Kd.int .u8) 5 w8 w.heap.size (fun _ => True) (.slice A8 (m + x.size) c8) (acc ++ bytesOf x) from Kd.R_of_own ho3 (fun _ _ => trivial)); have HB8 := Aside0.mk hb3; have HM8 := Aside0.mk hl3; clear ho3 hb3 hg3 hat3 hl3))
          go_roundg kq
          case measure => omega
          case rel => exact ⟨i + 1, _, by first | rfl | simp, by omega, HJ, ⟨by rw [HM8.out]; omega⟩, HO8, HB8⟩
      · rw [show ahead a0 i acc = acc ++ bytesOf a0 by simp [ahead, hz]] at H0
        have hnz : (0 : Int) < (i : Int) := by omega
        have hm0 := HM.out
        have hm7 : m + a0.size ≤ 1016384 := by omega
        have HMX := Aside0.mk hm7
        have HMY := Aside0.mk (show (acc ++ bytesOf a0).length = m + a0.size by rw [List.length_append, bytesOf_length, HMM.out])
        clear hz
        by_cases hbig : 16384 < m + a0.size + x.size
        · have hR : acc ++ bytesOf a0 ++ bytesOf x = R := by
            rw [if_pos (by rw [List.length_append, bytesOf_length, HMY.out]; exact hbig)] at H0
            exact H0
          obtain rfl := hR
          clear H0
          have hbigz : (16384 : Int) < ((m + a0.size + x.size : Nat) : Int) := by omega
          go_wp2_with (first | ((with_reducible refine gate_builtin (b := .append) (xs := #[.tmp 16, .tmp 18]) rfl ?_); at_builtin; refine print_append_row (w0 := w) w.heap.size rfl (.tmp 16) (.tmp 18) 41 5 .u8 1 rfl Tryd.underlying41 (by kernel_rfl) (by omega) (.slice A2 (m) c2) (acc) (bytesOf a0) (some ⟨wr.heap.size, 0, none⟩) a0.size (grownCap wr a0.size 0 5) rfl rfl ?aO ?aR ?aB ?aS ?aL ?_; (case aO => exact Kd.own_of_R (Kd.R_below HO.out (bytes_below (Below.refl _ _) (Nat.le_refl _) 5 a0))); (case aR => exact bytes_reads wr 5 a0 (by omega)); (case aB => exact bytes_below HB.out HB.out.size 5 a0); (case aS => exact Nat.le_trans HB.out.size (bytes_below (Below.refl _ _) (Nat.le_refl _) 5 a0).size); (case aL => rw [HMM.out]; have := HM.out; omega); intro v1 w7 ho3 hb3 hg3 hat3; obtain ⟨A7, c7, hv3⟩ := own_slice ho3; have hl3 : (acc ++ bytesOf a0).length = m + a0.size := (by rw [List.length_append, bytesOf_length, HMM.out]); rw [hl3] at hv3; subst hv3; have HO7 := Aside0.mk (show Kd.R (Kd.int .u8) 5 w7 w.heap.size (fun _ => True) (.slice A7 (m + a0.size) c7) (acc ++ bytesOf a0) from Kd.R_of_own ho3 (fun _ _ => trivial)); have HB7 := Aside0.mk hb3; have HM7 := Aside0.mk hl3; clear ho3 hb3 hg3 hat3 hl3; have x0 := XK.out w7 HB7.out) | ((with_reducible refine gate_builtin (b := .append) (xs := #[.tmp 20, .tmp 25]) rfl ?_); at_builtin; refine print_append_row (w0 := w) w.heap.size rfl (.tmp 20) (.tmp 25) 41 5 .u8 1 rfl Tryd.underlying41 (by kernel_rfl) (by omega) (.slice A7 (m + a0.size) c7) (acc ++ bytesOf a0) (bytesOf x) (some ⟨w7.heap.size, 0, none⟩) x.size (grownCap w7 x.size 0 5) rfl rfl ?aO ?aR ?aB ?aS ?aL ?_; (case aO => exact Kd.own_of_R (Kd.R_below HO7.out (bytes_below (Below.refl _ _) (Nat.le_refl _) 5 x))); (case aR => exact bytes_reads w7 5 x (by omega)); (case aB => exact bytes_below HB7.out HB7.out.size 5 x); (case aS => exact Nat.le_trans HB7.out.size (bytes_below (Below.refl _ _) (Nat.le_refl _) 5 x).size); (case aL => rw [HM7.out]; have := HMX.out; omega); intro v1 w8 ho3 hb3 hg3 hat3; obtain ⟨A8, c8, hv3⟩ := own_slice ho3; have hl3 : (acc ++ bytesOf a0 ++ bytesOf x).length = m + a0.size + x.size := (by rw [List.length_append, bytesOf_length, HM7.out]); rw [hl3] at hv3; subst hv3; have HO8 := Aside0.mk (show Kd.R (Kd.int .u8) 5 w8 w.heap.size (fun _ => True) (.slice A8 (m + a0.size + x.size) c8) (acc ++ bytesOf a0 ++ bytesOf x) from Kd.R_of_own ho3 (fun _ _ => trivial)); have HB8 := Aside0.mk hb3; have HM8 := Aside0.mk hl3; clear ho3 hb3 hg3 hat3 hl3; have hconv := own_string (P := Tryd.prog) (src := 41) (dst := 9) Tryd.underlying41 Tryd.underlying5 Tryd.underlying9 (Kd.own_of_R HO8.out)))
          go_ret
          exact ⟨by first | rfl | (rw [List.append_assoc]; rfl), HB8.out⟩
        · have hR : joinR a0 (i + 1) (acc ++ bytesOf a0 ++ bytesOf x) (l1.drop (i + 1)) = R := by
            rw [if_neg (by rw [List.length_append, bytesOf_length, HMY.out]; exact hbig)] at H0
            exact H0
          have HJ := Aside0.mk hR
          clear H0 hR
          have hbigz : ¬ (16384 : Int) < ((m + a0.size + x.size : Nat) : Int) := by omega
          go_wp2_with (first | ((with_reducible refine gate_builtin (b := .append) (xs := #[.tmp 16, .tmp 18]) rfl ?_); at_builtin; refine print_append_row (w0 := w) w.heap.size rfl (.tmp 16) (.tmp 18) 41 5 .u8 1 rfl Tryd.underlying41 (by kernel_rfl) (by omega) (.slice A2 (m) c2) (acc) (bytesOf a0) (some ⟨wr.heap.size, 0, none⟩) a0.size (grownCap wr a0.size 0 5) rfl rfl ?aO ?aR ?aB ?aS ?aL ?_; (case aO => exact Kd.own_of_R (Kd.R_below HO.out (bytes_below (Below.refl _ _) (Nat.le_refl _) 5 a0))); (case aR => exact bytes_reads wr 5 a0 (by omega)); (case aB => exact bytes_below HB.out HB.out.size 5 a0); (case aS => exact Nat.le_trans HB.out.size (bytes_below (Below.refl _ _) (Nat.le_refl _) 5 a0).size); (case aL => rw [HMM.out]; have := HM.out; omega); intro v1 w7 ho3 hb3 hg3 hat3; obtain ⟨A7, c7, hv3⟩ := own_slice ho3; have hl3 : (acc ++ bytesOf a0).length = m + a0.size := (by rw [List.length_append, bytesOf_length, HMM.out]); rw [hl3] at hv3; subst hv3; have HO7 := Aside0.mk (show Kd.R (Kd.int .u8) 5 w7 w.heap.size (fun _ => True) (.slice A7 (m + a0.size) c7) (acc ++ bytesOf a0) from Kd.R_of_own ho3 (fun _ _ => trivial)); have HB7 := Aside0.mk hb3; have HM7 := Aside0.mk hl3; clear ho3 hb3 hg3 hat3 hl3; have x0 := XK.out w7 HB7.out) | ((with_reducible refine gate_builtin (b := .append) (xs := #[.tmp 20, .tmp 25]) rfl ?_); at_builtin; refine print_append_row (w0 := w) w.heap.size rfl (.tmp 20) (.tmp 25) 41 5 .u8 1 rfl Tryd.underlying41 (by kernel_rfl) (by omega) (.slice A7 (m + a0.size) c7) (acc ++ bytesOf a0) (bytesOf x) (some ⟨w7.heap.size, 0, none⟩) x.size (grownCap w7 x.size 0 5) rfl rfl ?aO ?aR ?aB ?aS ?aL ?_; (case aO => exact Kd.own_of_R (Kd.R_below HO7.out (bytes_below (Below.refl _ _) (Nat.le_refl _) 5 x))); (case aR => exact bytes_reads w7 5 x (by omega)); (case aB => exact bytes_below HB7.out HB7.out.size 5 x); (case aS => exact Nat.le_trans HB7.out.size (bytes_below (Below.refl _ _) (Nat.le_refl _) 5 x).size); (case aL => rw [HM7.out]; have := HMX.out; omega); intro v1 w8 ho3 hb3 hg3 hat3; obtain ⟨A8, c8, hv3⟩ := own_slice ho3; have hl3 : (acc ++ bytesOf a0 ++ bytesOf x).length = m + a0.size + x.size := (by rw [List.length_append, bytesOf_length, HM7.out]); rw [hl3] at hv3; subst hv3; have HO8 := Aside0.mk (show Kd.R (Kd.int .u8) 5 w8 w.heap.size (fun _ => True) (.slice A8 (m + a0.size + x.size) c8) (acc ++ bytesOf a0 ++ bytesOf x) from Kd.R_of_own ho3 (fun _ _ => trivial)); have HB8 := Aside0.mk hb3; have HM8 := Aside0.mk hl3; clear ho3 hb3 hg3 hat3 hl3))
          go_roundg kq
          case measure => omega
          case rel => exact ⟨i + 1, _, by first | rfl | simp, by omega, HJ, ⟨by rw [HM8.out]; omega⟩, HO8, HB8⟩
    · have hconv := own_string (P := Tryd.prog) (src := 41) (dst := 9) Tryd.underlying41 Tryd.underlying5 Tryd.underlying9 (Kd.own_of_R HO.out)
      have hres : acc = R := by
        have h1 := HJ.out
        rw [List.drop_eq_nil_of_le (by rw [HN.out]; omega)] at h1
        exact h1
      obtain rfl := hres
      clear HJ HM HO hik
      go_wp2
      go_ret
      exact ⟨rfl, HB.out⟩

end Go.Proofs.YtfgiodolgmfdoaaDoor.PT
