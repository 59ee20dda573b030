/- Go functions as Lean functions, and that each Go function comes to just that; printed by a program of this session (gprint.py over the kit's print.py). No condition. -/
import Derived.Test.YtkclfbmgnhmkhaaPCx9
import Derived.Test.YtkclfbmgnhmkhaaPCx8
import Derived.Test.YtkclfbmgnhmkhaaPNx1
namespace Go.Proofs.Ytkclfbmgnhmkhaa.PC
open Go.RowKit Go.Proofs.YtkclfbmgnhmkhaaW.PrintWords Go.Proofs.YtkclfbmgnhmkhaaW.PrintLast Go.Proofs.YtkclfbmgnhmkhaaW.PrintMore
attribute [local go_sem] max2_int min2_int max_two min_two max_three min_three max_four min_four   -- for this text's walks alone
set_option linter.unusedVariables false
set_option linter.unusedSimpArgs false

/-! ### spec_l9Draw: function 42 -/
mutual
def spec_l9Draw.l0 : Nat → Int → List (S41) → Int → List Int → Int → Option ((List (S41)) × Int)
 | 0, _, _, _, _, _ => none
 | k + 1, x3, x4, x5, x1000, x1001 => if x5 < x3 then ((spec_l1Rd_below.f x1000 x1001 4).bind fun bt142 => (spec_l9Draw.l1 k x3 x4 x5 (([] : List Int)) bt142.1 0 x1000 bt142.2)) else ((spec_l1Rd_once.f x1000 x1001 20).bind fun bt181 => (if bt181.1 = true then (spec_l9Draw.j7 k x4 (decide ((x4.length : Int) > 0)) x1000 bt181.2) else (spec_l9Draw.j7 k x4 false x1000 bt181.2)))
def spec_l9Draw.l1 : Nat → Int → List (S41) → Int → List Int → Int → Int → List Int → Int → Option ((List (S41)) × Int)
 | 0, _, _, _, _, _, _, _, _ => none
 | k + 1, x3, x4, x5, x6, x7, x8, x1000, x1001 => if x8 < x7 then (spec_l9Draw.j2 k x3 x4 x5 x6 x7 x8 (decide (x5 > 0)) x1000 x1001) else (spec_l9Draw.j2 k x3 x4 x5 x6 x7 x8 false x1000 x1001)
def spec_l9Draw.j2 : Nat → Int → List (S41) → Int → List Int → Int → Int → Bool → List Int → Int → Option ((List (S41)) × Int)
 | 0, _, _, _, _, _, _, _, _, _ => none
 | k + 1, x3, x4, x5, x6, x7, x8, x33, x1000, x1001 => if x33 = true then ((spec_l1Rd_below.f x1000 x1001 x5).bind fun bt144 => ((spec_l1Rd_once.f x1000 bt144.2 2).bind fun bt146 => (if bt146.1 = true then ((spec_l1Rd_below.f x1000 bt146.2 x5).bind fun bt148 => (if (wrap64 ((wrap64 (x5 - 1)) - (Int.tmod bt148.1 3))) < 0 then (spec_l9Draw.j3 k x3 x4 x5 x6 x7 x8 0 x1000 bt148.2) else (spec_l9Draw.j3 k x3 x4 x5 x6 x7 x8 (wrap64 ((wrap64 (x5 - 1)) - (Int.tmod bt148.1 3))) x1000 bt148.2))) else (spec_l9Draw.j3 k x3 x4 x5 x6 x7 x8 bt144.1 x1000 bt146.2)))) else ((spec_l1Rd_once.f x1000 x1001 4).bind fun bt159 => (if bt159.1 = true then ((spec_l9DrawAttrs.f k x1000 bt159.2).bind fun bt161 => (if x4.length < 2932031007402 then (spec_l9Draw.l0 k x3 (x4 ++ [(⟨x6, bt161.1⟩ : S41)]) (wrap64 (x5 + 1)) x1000 bt161.2) else (none))) else (spec_l9Draw.l3 k x3 x4 x5 x6 0 x1000 bt159.2)))
def spec_l9Draw.j3 : Nat → Int → List (S41) → Int → List Int → Int → Int → Int → List Int → Int → Option ((List (S41)) × Int)
 | 0, _, _, _, _, _, _, _, _, _ => none
 | k + 1, x3, x4, x5, x6, x7, x8, x9, x1000, x1001 => spec_l9Draw.l2 k x3 x4 x5 x6 x7 x8 x9 false 0 x1000 x1001
def spec_l9Draw.l2 : Nat → Int → List (S41) → Int → List Int → Int → Int → Int → Bool → Int → List Int → Int → Option ((List (S41)) × Int)
 | 0, _, _, _, _, _, _, _, _, _, _, _ => none
 | k + 1, x3, x4, x5, x6, x7, x8, x9, x10, x11, x1000, x1001 => if x11 < (x6.length : Int) then (if x10 = true then (spec_l9Draw.l2 k x3 x4 x5 x6 x7 x8 x9 true (wrap64 (x11 + 1)) x1000 x1001) else (if 0 ≤ x11 then (spec_l9Draw.l2 k x3 x4 x5 x6 x7 x8 x9 ((rd x6 x11) == x9) (wrap64 (x11 + 1)) x1000 x1001) else (none))) else (if x10 = true then ((spec_l1Rd_once.f x1000 x1001 50).bind fun bt151 => (if bt151.1 = true then (if x6.length < 17592186044416 then (spec_l9Draw.l1 k x3 x4 x5 (x6 ++ [x9]) x7 (wrap64 (x8 + 1)) x1000 bt151.2) else (none)) else (spec_l9Draw.l1 k x3 x4 x5 x6 x7 (wrap64 (x8 + 1)) x1000 bt151.2))) else (if x6.length < 17592186044416 then (spec_l9Draw.l1 k x3 x4 x5 (x6 ++ [x9]) x7 (wrap64 (x8 + 1)) x1000 x1001) else (none)))
def spec_l9Draw.l3 : Nat → Int → List (S41) → Int → List Int → Int → List Int → Int → Option ((List (S41)) × Int)
 | 0, _, _, _, _, _, _, _ => none
 | k + 1, x3, x4, x5, x6, x12, x1000, x1001 => if x12 < (x6.length : Int) then (spec_l9Draw.l4 k x3 x4 x5 x6 x12 (wrap64 (x12 + 1)) x1000 x1001) else ((spec_l9DrawAttrs.f k x1000 x1001).bind fun bt168 => (if x4.length < 2932031007402 then (spec_l9Draw.l0 k x3 (x4 ++ [(⟨x6, bt168.1⟩ : S41)]) (wrap64 (x5 + 1)) x1000 bt168.2) else (none)))
def spec_l9Draw.l4 : Nat → Int → List (S41) → Int → List Int → Int → Int → List Int → Int → Option ((List (S41)) × Int)
 | 0, _, _, _, _, _, _, _, _ => none
 | k + 1, x3, x4, x5, x6, x12, x13, x1000, x1001 => if x13 < (x6.length : Int) then (if 0 ≤ x13 then (if 0 ≤ x12 then (if x12 < (x6.length : Int) then (if (rd x6 x13) > (rd x6 x12) then (spec_l9Draw.l4 k x3 x4 x5 ((x6.set (x12 : Int).toNat (rd x6 x13)).set (x13 : Int).toNat (rd x6 x12)) x12 (wrap64 (x13 + 1)) x1000 x1001) else (spec_l9Draw.l4 k x3 x4 x5 x6 x12 (wrap64 (x13 + 1)) x1000 x1001)) else (none)) else (none)) else (none)) else (spec_l9Draw.l3 k x3 x4 x5 x6 (wrap64 (x12 + 1)) x1000 x1001)
def spec_l9Draw.j7 : Nat → List (S41) → Bool → List Int → Int → Option ((List (S41)) × Int)
 | 0, _, _, _, _ => none
 | k + 1, x4, x129, x1000, x1001 => if x129 = true then ((spec_l1Rd_below.f x1000 x1001 (x4.length : Int)).bind fun bt183 => (if 0 ≤ bt183.1 then (if bt183.1 < (x4.length : Int) then ((spec_l1Rd_below.f x1000 bt183.2 (wrap64 ((x4.length : Int) + 2))).bind fun bt186 => (if ((rd_T41 x4 bt183.1).f0).length < 17592186044416 then (spec_l9Draw.j8 k (x4.set (bt183.1 : Int).toNat (⟨(((rd_T41 x4 bt183.1).f0) ++ [wrap64 (bt186.1 - 1)]), (rd_T41 x4 bt183.1).f1⟩ : S41)) x1000 bt186.2) else (none))) else (none)) else (none))) else (spec_l9Draw.j8 k x4 x1000 x1001)
def spec_l9Draw.j8 : Nat → List (S41) → List Int → Int → Option ((List (S41)) × Int)
 | 0, _, _, _ => none
 | k + 1, x4, x1000, x1001 => (spec_l1Rd_once.f x1000 x1001 60).bind fun bt192 => (if bt192.1 = true then (spec_l9Draw.l5 k x4 x1000 bt192.2) else (some (x4, bt192.2)))
def spec_l9Draw.l5 : Nat → List (S41) → List Int → Int → Option ((List (S41)) × Int)
 | 0, _, _, _ => none
 | k + 1, x4, x1000, x1001 => (spec_l1Rd_below.f x1000 x1001 2).bind fun bt194 => (if (x4.length : Int) < (wrap64 (200 + bt194.1)) then (if x4.length < 2932031007402 then (spec_l9Draw.l5 k (x4 ++ [(⟨(([wrap64 ((x4.length : Int) - 1)] : List Int)), ([] : List (S48))⟩ : S41)]) x1000 bt194.2) else (none)) else (some (x4, bt194.2)))
end
def spec_l9Draw.f (k : Nat) (s0_0 : List Int) (s0_1 : Int) : Option ((List (S41)) × Int) := (spec_l1Rd_size.f s0_0 s0_1 5 14).bind fun bt134 => (spec_l9Draw.l0 k bt134.1 (([] : List (S41))) 0 s0_0 bt134.2)
def spec_l9Draw.T30 : Bool × List (List Nat × List Nat) := (true, [([], []), ([], []), ([0, 1], [0, 1]), ([2], [2]), ([], []), ([], []), ([4, 5], [4, 5]), ([6], [6]), ([3, 7], [3, 7])])
def spec_l9Draw.B30 : List Nat := [0, 0, 3, 7, 0, 0, 48, 112, 255]
theorem spec_l9Draw.tab30 : rtab .any (opsOf Try.f42 30) = spec_l9Draw.T30 := by kernel_rfl
theorem spec_l9Draw.bits30 : waitsOk spec_l9Draw.T30.2 spec_l9Draw.B30 = true := by kernel_rfl
def spec_l9Draw.T37 : Bool × List (List Nat × List Nat) := (true, [([], []), ([], []), ([], []), ([], []), ([2, 3], [2, 3]), ([4], [4]), ([5], [5]), ([], []), ([], []), ([8], [8]), ([9], [9]), ([7, 10], [7, 10]), ([11], [11]), ([12], [12]), ([6, 13, 11], [6, 13]), ([0, 1, 0, 1, 2, 3, 4, 5, 6, 7, 8, 9, 10, 11, 12, 13, 14], [0, 1]), ([15, 0, 1, 2, 3, 4, 5, 6, 7, 8, 9, 10, 11, 12, 13, 14], [15]), ([16, 14, 14, 0, 1, 2, 3, 4, 5, 6, 7, 8, 9, 10, 11, 12, 13, 14], [14, 16])])
def spec_l9Draw.B37 : List Nat := [0, 0, 0, 0, 12, 28, 60, 0, 0, 256, 768, 1920, 3968, 8064, 16380, 32767, 65535, 131071]
theorem spec_l9Draw.tab37 : rtab .any (opsOf Try.f42 37) = spec_l9Draw.T37 := by kernel_rfl
theorem spec_l9Draw.bits37 : waitsOk spec_l9Draw.T37.2 spec_l9Draw.B37 = true := by kernel_rfl
set_option maxHeartbeats 8000000 in
set_option maxRecDepth 100000 in
theorem spec_l9Draw.calls (k : Nat) (g : Nat) (s0_0 : List Int) (s0_1 : Int) (r1 : List (S41)) (r2 : Int) (w0 w : World) (hI : IsS90 w0 w g s0_0 s0_1) (hB : Below w0.heap.size w0 w) (h : spec_l9Draw.f k s0_0 s0_1 = some (r1, r2)) :
  Calls Try.prog 42 #[.pointer (some ⟨g, 0, none⟩)] w fun e w' => ∃ v0_ : Value, e = .returned (v0_) ∧ Kd.S k41 41 w' w.heap.size (fun _ => True) v0_ r1 ∧ IsS90 w0 w' g s0_0 r2 ∧ Below w0.heap.size w0 w' ∧ KeepBut w w' g none := by
 have hu41 := Try.underlying41
 have HI0 := Aside0.mk hI
 have HK := Aside0.mk (KeepBut.refl w g none)
 have HL := Aside0.mk hB.size
 clear hI
 have HW0 := Aside0.mk hB.size
 have HB := Aside0.mk hB
 clear hB
 have H : ((spec_l1Rd_size.f s0_0 s0_1 5 14).bind fun bt134 => (spec_l9Draw.l0 k bt134.1 (([] : List (S41))) 0 s0_0 bt134.2)) = some (r1, r2) := h
 clear h
 replace H := Option.bind_eq_some_iff.mp H
 obtain ⟨⟨t134, t135⟩, A20, H⟩ := H
 replace H : (spec_l9Draw.l0 k t134 (([] : List (S41))) 0 s0_0 t135) = some (r1, r2) := H
 have A2 := Aside0.mk A20
 clear A20
 obtain ⟨y136, hy136⟩ : ∃ y_ : List (S41), y_ = (([] : List (S41))) := ⟨_, rfl⟩
 replace H : (spec_l9Draw.l0 k t134 y136 0 s0_0 t135) = some (r1, r2) := by first | (rw [hy136]; with_reducible exact H) | (have H2_ := (Option.bind_some _ _).symm.trans H; rw [hy136]; with_reducible exact H2_) | (have H2_ := (Option.bind_some _ _).symm.trans H; with_reducible exact H2_) | with_reducible exact H | (rw [hy136]; exact H) | exact H
 have Ny136 := Aside0.mk hy136
 clear hy136
 have H' := Aside0.mk H
 clear H
 go_enter Try.func42, Try.ntmps42
 go_wp2_with (first | ((with_reducible refine gate_callee (f := 62) rfl ?_); refine goesL_ (some 17) rfl rfl Try.func62 (by kernel_rfl) rfl #[.pointer (some ⟨g, 0, none⟩), .int .i64 5, .int .i64 14] rfl (by (try simp only [List.map_toArray, List.map_cons, List.map_nil]); first | done | rfl | (simp only [List.length_drop, List.length_take]; rfl)) ?_; (with_reducible refine (spec_l1Rd_size.calls g s0_0 s0_1 5 14 t134 t135 w0 _ ?side1 ?side2 A2.out).mono ?_); (case side1 => repeat (first | (with_reducible first | exact HI0.out | apply IsS90.alloc | apply IsS90.drewN | apply IsS90.drew | apply IsS90.set_1) | exact HI0.out)); (case side2 => repeat (first | (with_reducible first | exact HB.out | apply below_alloc | apply pw_below_drewN | apply below_drew1 | refine below_set ?_ (IsS90.ge HI0.out)) | exact HB.out)); rintro e w3 ⟨rfl, hi, hb, hk⟩; refine ⟨_, rfl, ?_⟩; have n0_ := Aside0.mk (KeepBut.trans (by repeat (first | (with_reducible first | exact HK.out | apply KeepBut.set_ | apply keep_drewN | apply keep_drew | apply keep_alloc) | exact HK.out)) hk (.inl rfl)); have n1_ := Aside0.mk (hb); have n2_ := Aside0.mk (hi); clear HK; clear HB; clear HI0; have HK := n0_; have HB := n1_; have HI0 := n2_; clear n0_ n1_ n2_; (try clear hb); (try clear hb2); (try clear hk); (try clear hi)) | ((with_reducible refine gate_dst (N := 18) rfl ?_); (try (refine gate_guard (by rfl) ?_; dsimp only)); refine Kd.S_lit k41 _ 41 ?hg (N := 18) ?hd (xs := ([] : List (S41))) (inner := []) (ok := fun _ => True) (okp := fun _ => True) ?hr ?hp (fun _ hk => hk) trivial (Below.refl _ _) (Nat.le_refl _) (by simp) ?_; (case hd => rfl); (case hg => rfl); (case hr => first | (go_simp; done) | (go_simp; rfl)); (case hp => exact (Reps.none _ _)); intro v137 w4 ho5 hb hg_ hnew_; clear hg_ hnew_; (first | rw [← Ny136.out] at ho5 | (simp only [Int.reduceToNat] at ho5; rw [← Ny136.out] at ho5)); have n0_ := Aside0.mk (Kd.S_lower ho5 (keep_size (w := w) (g := g) (row := none) (by repeat (first | (with_reducible first | exact HK.out | apply KeepBut.set_ | apply keep_drewN | apply keep_drew | apply keep_alloc) | exact HK.out)))); have n1_ := Aside0.mk (IsS90.below (by repeat (first | (with_reducible first | exact HI0.out | apply IsS90.alloc | apply IsS90.drewN | apply IsS90.drew | apply IsS90.set_1) | exact HI0.out)) hb); have n2_ := Aside0.mk (KeepBut.trans (by repeat (first | (with_reducible first | exact HK.out | apply KeepBut.set_ | apply keep_drewN | apply keep_drew | apply keep_alloc) | exact HK.out)) (KeepBut.of_below hb g none) (.inl rfl)); have n3_ := Aside0.mk (below_step (by repeat (first | (with_reducible first | exact HB.out | apply below_alloc | apply pw_below_drewN | apply below_drew1 | refine below_set ?_ (IsS90.ge HI0.out)) | exact HB.out)) hb); clear HI0; clear HK; clear HB; have HO138 := n0_; have HI0 := n1_; have HK := n2_; have HB := n3_; clear n0_ n1_ n2_ n3_; clear hb ho5))
 go_loopg [4, 5] k (fun kq v4 v5 w' => ∃ (x4_1 : List (S41)) (x5_1 : Int) (x1001_1 : Int), v5 = .int .i64 x5_1 ∧ Aside0 (spec_l9Draw.l0 kq t134 x4_1 x5_1 s0_0 x1001_1 = some (r1, r2)) ∧ Aside0 (kq ≤ k) ∧ Aside0 (Kd.S k41 41 w' w.heap.size (fun _ => True) v4 x4_1) ∧ Aside0 (IsS90 w0 w' g s0_0 x1001_1) ∧ Aside0 (KeepBut w w' g none) ∧ Aside0 (Below w0.heap.size w0 w'))
 case atStart => exact ⟨(y136), (0), (t135), (by first | rfl | (simp; done) | (simp [*]; done)), H', ⟨Nat.le_refl _⟩, ⟨by (with_reducible repeat (first | apply Kd.S_alloc | apply Kd.S_drewN | apply Kd.S_drew)); exact HO138.out⟩, ⟨by repeat (first | (with_reducible first | exact HI0.out | apply IsS90.alloc | apply IsS90.drewN | apply IsS90.drew | apply IsS90.set_1) | exact HI0.out)⟩, ⟨by repeat (first | (with_reducible first | exact HK.out | apply KeepBut.set_ | apply keep_drewN | apply keep_drew | apply keep_alloc) | exact HK.out)⟩, ⟨by repeat (first | (with_reducible first | exact HB.out | apply below_alloc | apply pw_below_drewN | apply below_drew1 | refine below_set ?_ (IsS90.ge HI0.out)) | exact HB.out)⟩⟩
 case round =>
  clear H'
  try clear p2
  try clear c4
  obtain ⟨x4_1, x5_1, x1001_1, rfl, HA, HK1, HO_4, HI0, HK, HB⟩ := hrel
  cases gk with
  | zero => exact absurd HA.out (by simp [spec_l9Draw.l0])
  | succ k1 =>
   have H := HA.out
   clear HA
   simp only [spec_l9Draw.l0] at H
   by_cases c6 : x5_1 < t134
   ·rw [if_pos c6] at H
    have c6b0 : decide (x5_1 < t134) = true := decide_eq_true c6
    clear c6
    obtain ⟨y139, hy139⟩ : ∃ y_ : List Int, y_ = (([] : List Int)) := ⟨_, rfl⟩
    replace H : ((spec_l1Rd_below.f s0_0 x1001_1 4).bind fun bt142 => (spec_l9Draw.l1 k1 t134 x4_1 x5_1 y139 bt142.1 0 s0_0 bt142.2)) = some (r1, r2) := by first | (rw [hy139]; with_reducible exact H) | (have H2_ := (Option.bind_some _ _).symm.trans H; rw [hy139]; with_reducible exact H2_) | (have H2_ := (Option.bind_some _ _).symm.trans H; with_reducible exact H2_) | with_reducible exact H | (rw [hy139]; exact H) | exact H
    have Ny139 := Aside0.mk hy139
    clear hy139
    replace H := Option.bind_eq_some_iff.mp H
    obtain ⟨⟨t142, t143⟩, A70, H⟩ := H
    replace H : (spec_l9Draw.l1 k1 t134 x4_1 x5_1 y139 t142 0 s0_0 t143) = some (r1, r2) := H
    have A7 := Aside0.mk A70
    clear A70
    have H' := Aside0.mk H
    clear H
    go_wp2_with (first | ((with_reducible refine gate_dst (N := 24) rfl ?_); (try (refine gate_guard (by rfl) ?_; dsimp only)); refine Kd.R_lit (Kd.int .i64) _ 2 ?hg (N := 24) ?hd (xs := ([] : List Int)) (inner := []) (ok := fun _ => True) (okp := fun _ => True) ?hr ?hp (fun _ hk => hk) trivial (Below.refl _ _) (Nat.le_refl _) (by simp) ?_; (case hd => rfl); (case hg => rfl); (case hr => first | (go_simp; done) | (go_simp; rfl)); (case hp => exact (Reps.none _ _)); intro v140 w8 ho9 hb hg_ hnew_; clear hg_ hnew_; (first | rw [← Ny139.out] at ho9 | (simp only [Int.reduceToNat] at ho9; rw [← Ny139.out] at ho9)); have n0_ := Aside0.mk (Kd.S_elder' (by (with_reducible repeat (first | apply Kd.S_alloc | apply Kd.S_drewN | apply Kd.S_drew)); exact HO_4.out) (Kd.R_base ho9) hb); have n1_ := Aside0.mk (Kd.R_lower ho9 (keep_size (w := w) (g := g) (row := none) (by repeat (first | (with_reducible first | exact HK.out | apply KeepBut.set_ | apply keep_drewN | apply keep_drew | apply keep_alloc) | exact HK.out)))); have n2_ := Aside0.mk (IsS90.below (by repeat (first | (with_reducible first | exact HI0.out | apply IsS90.alloc | apply IsS90.drewN | apply IsS90.drew | apply IsS90.set_1) | exact HI0.out)) hb); have n3_ := Aside0.mk (KeepBut.trans (by repeat (first | (with_reducible first | exact HK.out | apply KeepBut.set_ | apply keep_drewN | apply keep_drew | apply keep_alloc) | exact HK.out)) (KeepBut.of_below hb g none) (.inl rfl)); have n4_ := Aside0.mk (below_step (by repeat (first | (with_reducible first | exact HB.out | apply below_alloc | apply pw_below_drewN | apply below_drew1 | refine below_set ?_ (IsS90.ge HI0.out)) | exact HB.out)) hb); clear HO_4; clear HI0; clear HK; clear HB; have HO_4 := n0_; have HO141 := n1_; have HI0 := n2_; have HK := n3_; have HB := n4_; clear n0_ n1_ n2_ n3_ n4_; clear hb ho9) | ((with_reducible refine gate_callee (f := 46) rfl ?_); refine goesL_ (some 26) rfl rfl Try.func46 (by kernel_rfl) rfl #[.pointer (some ⟨g, 0, none⟩), .int .i64 4] rfl (by (try simp only [List.map_toArray, List.map_cons, List.map_nil]); first | done | rfl | (simp only [List.length_drop, List.length_take]; rfl)) ?_; (with_reducible refine (spec_l1Rd_below.calls g s0_0 x1001_1 4 t142 t143 w0 _ ?side1 ?side2 A7.out).mono ?_); (case side1 => repeat (first | (with_reducible first | exact HI0.out | apply IsS90.alloc | apply IsS90.drewN | apply IsS90.drew | apply IsS90.set_1) | exact HI0.out)); (case side2 => repeat (first | (with_reducible first | exact HB.out | apply below_alloc | apply pw_below_drewN | apply below_drew1 | refine below_set ?_ (IsS90.ge HI0.out)) | exact HB.out)); rintro e w10 ⟨rfl, hi, hb, hk⟩; refine ⟨_, rfl, ?_⟩; have n0_ := Aside0.mk (Kd.S_mono (Kd.S_keep (IsS90.apartS (show IsS90 w0 _ g s0_0 x1001_1 from by repeat (first | (with_reducible first | exact HI0.out | apply IsS90.alloc | apply IsS90.drewN | apply IsS90.drew | apply IsS90.set_1) | exact HI0.out)) (by (with_reducible repeat (first | apply Kd.S_alloc | apply Kd.S_drewN | apply Kd.S_drew)); exact HO_4.out) (by decide)) hk (fun _ h => h.2)) (fun _ h => h.1)); have n1_ := Aside0.mk (Kd.R_mono (Kd.R_keep (IsS90.apart (show IsS90 w0 _ g s0_0 x1001_1 from by repeat (first | (with_reducible first | exact HI0.out | apply IsS90.alloc | apply IsS90.drewN | apply IsS90.drew | apply IsS90.set_1) | exact HI0.out)) (by (with_reducible repeat (first | apply Kd.R_alloc | apply Kd.R_drewN | apply Kd.R_drew)); exact HO141.out) (by decide)) hk (fun _ h => h.2)) (fun _ h => h.1)); have n2_ := Aside0.mk (KeepBut.trans (by repeat (first | (with_reducible first | exact HK.out | apply KeepBut.set_ | apply keep_drewN | apply keep_drew | apply keep_alloc) | exact HK.out)) hk (.inl rfl)); have n3_ := Aside0.mk (hb); have n4_ := Aside0.mk (hi); clear HO_4; clear HO141; clear HK; clear HB; clear HI0; have HO_4 := n0_; have HO141 := n1_; have HK := n2_; have HB := n3_; have HI0 := n4_; clear n0_ n1_ n2_ n3_ n4_; (try clear hb); (try clear hb2); (try clear hk); (try clear hi)))
    go_loopg [6, 8] k1 (fun kq v6 v8 w' => ∃ (x6_2 : List Int) (x8_2 : Int) (x1001_2 : Int), v8 = .int .i64 x8_2 ∧ Aside0 (spec_l9Draw.l1 kq t134 x4_1 x5_1 x6_2 t142 x8_2 s0_0 x1001_2 = some (r1, r2)) ∧ Aside0 (kq ≤ k1) ∧ Aside0 (Kd.S k41 41 w' w.heap.size (fun k_ => some k_ ≠ (v6 : Value).ownBlock) u4 x4_1) ∧ Aside0 (Kd.R (Kd.int .i64) 2 w' w.heap.size (fun _ => True) v6 x6_2) ∧ Aside0 (IsS90 w0 w' g s0_0 x1001_2) ∧ Aside0 (KeepBut w w' g none) ∧ Aside0 (Below w0.heap.size w0 w'))
    case atStart => exact ⟨(y139), (0), (t143), (by first | rfl | (simp; done) | (simp [*]; done)), H', ⟨Nat.le_refl _⟩, ⟨by (with_reducible repeat (first | apply Kd.S_alloc | apply Kd.S_drewN | apply Kd.S_drew)); exact Kd.S_mono HO_4.out (fun _ hk => hk.2)⟩, ⟨by (with_reducible repeat (first | apply Kd.R_alloc | apply Kd.R_drewN | apply Kd.R_drew)); exact HO141.out⟩, ⟨by repeat (first | (with_reducible first | exact HI0.out | apply IsS90.alloc | apply IsS90.drewN | apply IsS90.drew | apply IsS90.set_1) | exact HI0.out)⟩, ⟨by repeat (first | (with_reducible first | exact HK.out | apply KeepBut.set_ | apply keep_drewN | apply keep_drew | apply keep_alloc) | exact HK.out)⟩, ⟨by repeat (first | (with_reducible first | exact HB.out | apply below_alloc | apply pw_below_drewN | apply below_drew1 | refine below_set ?_ (IsS90.ge HI0.out)) | exact HB.out)⟩⟩
    case round =>
     clear H'
     try clear p2
     try clear c4
     try clear c6
     try clear c6b0
     try clear p2
     obtain ⟨x6_2, x8_2, x1001_2, rfl, HA, HK2, HO_4, HO_6, HI0, HK, HB⟩ := hrel
     cases gk with
     | zero => exact absurd HA.out (by simp [spec_l9Draw.l1])
     | succ k2 =>
      have H := HA.out
      clear HA
      simp only [spec_l9Draw.l1] at H
      have HC11 := Aside0.mk H
      clear H
      go_upto_region 9 with (fail)
      go_cut [33] (fun v33 wc => ∃ (kq : Nat) (x33_10 : Bool), v33 = .bool x33_10 ∧ Aside0 (spec_l9Draw.j2 kq t134 x4_1 x5_1 x6_2 t142 x8_2 x33_10 s0_0 x1001_2 = some (r1, r2)) ∧ Aside0 (kq ≤ k2) ∧ Aside0 (Kd.S k41 41 wc w.heap.size (fun k_ => some k_ ≠ (u6 : Value).ownBlock) u4 x4_1) ∧ Aside0 (Kd.R (Kd.int .i64) 2 wc w.heap.size (fun _ => True) u6 x6_2) ∧ Aside0 (IsS90 w0 wc g s0_0 x1001_2) ∧ Aside0 (KeepBut w wc g none) ∧ Aside0 (Below w0.heap.size w0 wc))
      case first =>
       have H := HC11.out
       clear HC11
       by_cases c12 : x8_2 < t142
       ·rw [if_pos c12] at H
        have c12b0 : decide (x8_2 < t142) = true := decide_eq_true c12
        clear c12
        (first | rw [c12b0] | (simp only [i64_w, i32_w]; rw [c12b0]) | skip)
        have H' := Aside0.mk H
        clear H
        go_wp2
        go_meet
        case rel => exact ⟨_, (decide (x5_1 > 0)), (by first | rfl | (simp; done) | (simp [*]; done)), H', ⟨by have := HK1.out; have := HK2.out; first | omega | exact Nat.le_refl _⟩, ⟨by (with_reducible repeat (first | apply Kd.S_alloc | apply Kd.S_drewN | apply Kd.S_drew)); exact HO_4.out⟩, ⟨by (with_reducible repeat (first | apply Kd.R_alloc | apply Kd.R_drewN | apply Kd.R_drew)); exact HO_6.out⟩, ⟨by repeat (first | (with_reducible first | exact HI0.out | apply IsS90.alloc | apply IsS90.drewN | apply IsS90.drew | apply IsS90.set_1) | exact HI0.out)⟩, ⟨by repeat (first | (with_reducible first | exact HK.out | apply KeepBut.set_ | apply keep_drewN | apply keep_drew | apply keep_alloc) | exact HK.out)⟩, ⟨by repeat (first | (with_reducible first | exact HB.out | apply below_alloc | apply pw_below_drewN | apply below_drew1 | refine below_set ?_ (IsS90.ge HI0.out)) | exact HB.out)⟩⟩
       ·rw [if_neg c12] at H
        have c12b0 : decide (x8_2 < t142) = false := decide_eq_false c12
        clear c12
        (first | rw [c12b0] | (simp only [i64_w, i32_w]; rw [c12b0]) | skip)
        have H' := Aside0.mk H
        clear H
        go_wp2
        go_meet
        case rel => exact ⟨_, (false), (by first | rfl | (simp; done) | (simp [*]; done)), H', ⟨by have := HK1.out; have := HK2.out; first | omega | exact Nat.le_refl _⟩, ⟨by (with_reducible repeat (first | apply Kd.S_alloc | apply Kd.S_drewN | apply Kd.S_drew)); exact HO_4.out⟩, ⟨by (with_reducible repeat (first | apply Kd.R_alloc | apply Kd.R_drewN | apply Kd.R_drew)); exact HO_6.out⟩, ⟨by repeat (first | (with_reducible first | exact HI0.out | apply IsS90.alloc | apply IsS90.drewN | apply IsS90.drew | apply IsS90.set_1) | exact HI0.out)⟩, ⟨by repeat (first | (with_reducible first | exact HK.out | apply KeepBut.set_ | apply keep_drewN | apply keep_drew | apply keep_alloc) | exact HK.out)⟩, ⟨by repeat (first | (with_reducible first | exact HB.out | apply below_alloc | apply pw_below_drewN | apply below_drew1 | refine below_set ?_ (IsS90.ge HI0.out)) | exact HB.out)⟩⟩
      case rest =>
       clear HC11
       try clear c1
       try clear p2
       try clear c4
       try clear c6
       try clear c6b0
       try clear c12
       try clear c12b0
       try clear p2
       obtain ⟨kq, x33_10, rfl, HA, HJ10, HO_4, HO_6, HI0, HK, HB⟩ := hcut
       cases kq with
       | zero => exact absurd HA.out (by simp [spec_l9Draw.j2])
       | succ kj10 =>
        have H := HA.out
        clear HA
        simp only [spec_l9Draw.j2] at H
        by_cases c13 : x33_10 = true
        ·subst c13
         have H1 : ((spec_l1Rd_below.f s0_0 x1001_2 x5_1).bind fun bt144 => ((spec_l1Rd_once.f s0_0 bt144.2 2).bind fun bt146 => (if bt146.1 = true then ((spec_l1Rd_below.f s0_0 bt146.2 x5_1).bind fun bt148 => (if (wrap64 ((wrap64 (x5_1 - 1)) - (Int.tmod bt148.1 3))) < 0 then (spec_l9Draw.j3 kj10 t134 x4_1 x5_1 x6_2 t142 x8_2 0 s0_0 bt148.2) else (spec_l9Draw.j3 kj10 t134 x4_1 x5_1 x6_2 t142 x8_2 (wrap64 ((wrap64 (x5_1 - 1)) - (Int.tmod bt148.1 3))) s0_0 bt148.2))) else (spec_l9Draw.j3 kj10 t134 x4_1 x5_1 x6_2 t142 x8_2 bt144.1 s0_0 bt146.2)))) = some (r1, r2) := by rw [if_pos rfl] at H; exact H
         clear H
         have H := H1
         clear H1
         replace H := Option.bind_eq_some_iff.mp H
         obtain ⟨⟨t144, t145⟩, A140, H⟩ := H
         replace H : ((spec_l1Rd_once.f s0_0 t145 2).bind fun bt146 => (if bt146.1 = true then ((spec_l1Rd_below.f s0_0 bt146.2 x5_1).bind fun bt148 => (if (wrap64 ((wrap64 (x5_1 - 1)) - (Int.tmod bt148.1 3))) < 0 then (spec_l9Draw.j3 kj10 t134 x4_1 x5_1 x6_2 t142 x8_2 0 s0_0 bt148.2) else (spec_l9Draw.j3 kj10 t134 x4_1 x5_1 x6_2 t142 x8_2 (wrap64 ((wrap64 (x5_1 - 1)) - (Int.tmod bt148.1 3))) s0_0 bt148.2))) else (spec_l9Draw.j3 kj10 t134 x4_1 x5_1 x6_2 t142 x8_2 t144 s0_0 bt146.2))) = some (r1, r2) := H
         have A14 := Aside0.mk A140
         clear A140
         replace H := Option.bind_eq_some_iff.mp H
         obtain ⟨⟨t146, t147⟩, A150, H⟩ := H
         replace H : (if t146 = true then ((spec_l1Rd_below.f s0_0 t147 x5_1).bind fun bt148 => (if (wrap64 ((wrap64 (x5_1 - 1)) - (Int.tmod bt148.1 3))) < 0 then (spec_l9Draw.j3 kj10 t134 x4_1 x5_1 x6_2 t142 x8_2 0 s0_0 bt148.2) else (spec_l9Draw.j3 kj10 t134 x4_1 x5_1 x6_2 t142 x8_2 (wrap64 ((wrap64 (x5_1 - 1)) - (Int.tmod bt148.1 3))) s0_0 bt148.2))) else (spec_l9Draw.j3 kj10 t134 x4_1 x5_1 x6_2 t142 x8_2 t144 s0_0 t147)) = some (r1, r2) := H
         have A15 := Aside0.mk A150
         clear A150
         have HC16 := Aside0.mk H
         clear H
         go_upto_if 40 with (first | ((with_reducible refine gate_callee (f := 46) rfl ?_); refine goesL_ (some 38) rfl rfl Try.func46 (by kernel_rfl) rfl #[.pointer (some ⟨g, 0, none⟩), .int .i64 x5_1] rfl (by (try simp only [List.map_toArray, List.map_cons, List.map_nil]); first | done | rfl | (simp only [List.length_drop, List.length_take]; rfl)) ?_; (with_reducible refine (spec_l1Rd_below.calls g s0_0 x1001_2 x5_1 t144 t145 w0 _ ?side1 ?side2 A14.out).mono ?_); (case side1 => repeat (first | (with_reducible first | exact HI0.out | apply IsS90.alloc | apply IsS90.drewN | apply IsS90.drew | apply IsS90.set_1) | exact HI0.out)); (case side2 => repeat (first | (with_reducible first | exact HB.out | apply below_alloc | apply pw_below_drewN | apply below_drew1 | refine below_set ?_ (IsS90.ge HI0.out)) | exact HB.out)); rintro e w17 ⟨rfl, hi, hb, hk⟩; refine ⟨_, rfl, ?_⟩; have n0_ := Aside0.mk (Kd.S_mono (Kd.S_keep (IsS90.apartS (show IsS90 w0 _ g s0_0 x1001_2 from by repeat (first | (with_reducible first | exact HI0.out | apply IsS90.alloc | apply IsS90.drewN | apply IsS90.drew | apply IsS90.set_1) | exact HI0.out)) (by (with_reducible repeat (first | apply Kd.S_alloc | apply Kd.S_drewN | apply Kd.S_drew)); exact HO_4.out) (by decide)) hk (fun _ h => h.2)) (fun _ h => h.1)); have n1_ := Aside0.mk (Kd.R_mono (Kd.R_keep (IsS90.apart (show IsS90 w0 _ g s0_0 x1001_2 from by repeat (first | (with_reducible first | exact HI0.out | apply IsS90.alloc | apply IsS90.drewN | apply IsS90.drew | apply IsS90.set_1) | exact HI0.out)) (by (with_reducible repeat (first | apply Kd.R_alloc | apply Kd.R_drewN | apply Kd.R_drew)); exact HO_6.out) (by decide)) hk (fun _ h => h.2)) (fun _ h => h.1)); have n2_ := Aside0.mk (KeepBut.trans (by repeat (first | (with_reducible first | exact HK.out | apply KeepBut.set_ | apply keep_drewN | apply keep_drew | apply keep_alloc) | exact HK.out)) hk (.inl rfl)); have n3_ := Aside0.mk (hb); have n4_ := Aside0.mk (hi); clear HO_4; clear HO_6; clear HK; clear HB; clear HI0; have HO_4 := n0_; have HO_6 := n1_; have HK := n2_; have HB := n3_; have HI0 := n4_; clear n0_ n1_ n2_ n3_ n4_; (try clear hb); (try clear hb2); (try clear hk); (try clear hi)) | ((with_reducible refine gate_callee (f := 47) rfl ?_); refine goesL_ (some 40) rfl rfl Try.func47 (by kernel_rfl) rfl #[.pointer (some ⟨g, 0, none⟩), .int .i64 2] rfl (by (try simp only [List.map_toArray, List.map_cons, List.map_nil]); first | done | rfl | (simp only [List.length_drop, List.length_take]; rfl)) ?_; (with_reducible refine (spec_l1Rd_once.calls g s0_0 t145 2 t146 t147 w0 _ ?side1 ?side2 A15.out).mono ?_); (case side1 => repeat (first | (with_reducible first | exact HI0.out | apply IsS90.alloc | apply IsS90.drewN | apply IsS90.drew | apply IsS90.set_1) | exact HI0.out)); (case side2 => repeat (first | (with_reducible first | exact HB.out | apply below_alloc | apply pw_below_drewN | apply below_drew1 | refine below_set ?_ (IsS90.ge HI0.out)) | exact HB.out)); rintro e w18 ⟨rfl, hi, hb, hk⟩; refine ⟨_, rfl, ?_⟩; have n0_ := Aside0.mk (Kd.S_mono (Kd.S_keep (IsS90.apartS (show IsS90 w0 _ g s0_0 t145 from by repeat (first | (with_reducible first | exact HI0.out | apply IsS90.alloc | apply IsS90.drewN | apply IsS90.drew | apply IsS90.set_1) | exact HI0.out)) (by (with_reducible repeat (first | apply Kd.S_alloc | apply Kd.S_drewN | apply Kd.S_drew)); exact HO_4.out) (by decide)) hk (fun _ h => h.2)) (fun _ h => h.1)); have n1_ := Aside0.mk (Kd.R_mono (Kd.R_keep (IsS90.apart (show IsS90 w0 _ g s0_0 t145 from by repeat (first | (with_reducible first | exact HI0.out | apply IsS90.alloc | apply IsS90.drewN | apply IsS90.drew | apply IsS90.set_1) | exact HI0.out)) (by (with_reducible repeat (first | apply Kd.R_alloc | apply Kd.R_drewN | apply Kd.R_drew)); exact HO_6.out) (by decide)) hk (fun _ h => h.2)) (fun _ h => h.1)); have n2_ := Aside0.mk (KeepBut.trans (by repeat (first | (with_reducible first | exact HK.out | apply KeepBut.set_ | apply keep_drewN | apply keep_drew | apply keep_alloc) | exact HK.out)) hk (.inl rfl)); have n3_ := Aside0.mk (hb); have n4_ := Aside0.mk (hi); clear HO_4; clear HO_6; clear HK; clear HB; clear HI0; have HO_4 := n0_; have HO_6 := n1_; have HK := n2_; have HB := n3_; have HI0 := n4_; clear n0_ n1_ n2_ n3_ n4_; (try clear hb); (try clear hb2); (try clear hk); (try clear hi)))
         (try simp only [Act.put, List.setIfInBounds_toArray, List.set_cons_zero, List.set_cons_succ])
         go_cut [9] (fun v9 wc => ∃ (kq : Nat) (x9_15 : Int) (x1001_15 : Int), v9 = .int .i64 x9_15 ∧ Aside0 (spec_l9Draw.j3 kq t134 x4_1 x5_1 x6_2 t142 x8_2 x9_15 s0_0 x1001_15 = some (r1, r2)) ∧ Aside0 (kq ≤ kj10) ∧ Aside0 (Kd.S k41 41 wc w.heap.size (fun k_ => some k_ ≠ (u6 : Value).ownBlock) u4 x4_1) ∧ Aside0 (Kd.R (Kd.int .i64) 2 wc w.heap.size (fun _ => True) u6 x6_2) ∧ Aside0 (IsS90 w0 wc g s0_0 x1001_15) ∧ Aside0 (KeepBut w wc g none) ∧ Aside0 (Below w0.heap.size w0 wc))
         case first =>
          have H := HC16.out
          clear HC16
          by_cases c19 : t146 = true
          ·subst c19
           have H1 : ((spec_l1Rd_below.f s0_0 t147 x5_1).bind fun bt148 => (if (wrap64 ((wrap64 (x5_1 - 1)) - (Int.tmod bt148.1 3))) < 0 then (spec_l9Draw.j3 kj10 t134 x4_1 x5_1 x6_2 t142 x8_2 0 s0_0 bt148.2) else (spec_l9Draw.j3 kj10 t134 x4_1 x5_1 x6_2 t142 x8_2 (wrap64 ((wrap64 (x5_1 - 1)) - (Int.tmod bt148.1 3))) s0_0 bt148.2))) = some (r1, r2) := by rw [if_pos rfl] at H; exact H
           clear H
           have H := H1
           clear H1
           replace H := Option.bind_eq_some_iff.mp H
           obtain ⟨⟨t148, t149⟩, A200, H⟩ := H
           replace H : (if (wrap64 ((wrap64 (x5_1 - 1)) - (Int.tmod t148 3))) < 0 then (spec_l9Draw.j3 kj10 t134 x4_1 x5_1 x6_2 t142 x8_2 0 s0_0 t149) else (spec_l9Draw.j3 kj10 t134 x4_1 x5_1 x6_2 t142 x8_2 (wrap64 ((wrap64 (x5_1 - 1)) - (Int.tmod t148 3))) s0_0 t149)) = some (r1, r2) := H
           have A20 := Aside0.mk A200
           clear A200
           by_cases c21 : (wrap64 ((wrap64 (x5_1 - 1)) - (Int.tmod t148 3))) < 0
           ·rw [if_pos c21] at H
            have c21b0 : decide ((wrap64 ((wrap64 (x5_1 - 1)) - (Int.tmod t148 3))) < 0) = true := decide_eq_true c21
            clear c21
            (first | rw [c21b0] | (simp only [i64_w, i32_w]; rw [c21b0]) | skip)
            have H' := Aside0.mk H
            clear H
            go_wp2_with (first | ((with_reducible refine gate_callee (f := 46) rfl ?_); refine goesL_ (some 45) rfl rfl Try.func46 (by kernel_rfl) rfl #[.pointer (some ⟨g, 0, none⟩), .int .i64 x5_1] rfl (by (try simp only [List.map_toArray, List.map_cons, List.map_nil]); first | done | rfl | (simp only [List.length_drop, List.length_take]; rfl)) ?_; (with_reducible refine (spec_l1Rd_below.calls g s0_0 t147 x5_1 t148 t149 w0 _ ?side1 ?side2 A20.out).mono ?_); (case side1 => repeat (first | (with_reducible first | exact HI0.out | apply IsS90.alloc | apply IsS90.drewN | apply IsS90.drew | apply IsS90.set_1) | exact HI0.out)); (case side2 => repeat (first | (with_reducible first | exact HB.out | apply below_alloc | apply pw_below_drewN | apply below_drew1 | refine below_set ?_ (IsS90.ge HI0.out)) | exact HB.out)); rintro e w22 ⟨rfl, hi, hb, hk⟩; refine ⟨_, rfl, ?_⟩; have n0_ := Aside0.mk (Kd.S_mono (Kd.S_keep (IsS90.apartS (show IsS90 w0 _ g s0_0 t147 from by repeat (first | (with_reducible first | exact HI0.out | apply IsS90.alloc | apply IsS90.drewN | apply IsS90.drew | apply IsS90.set_1) | exact HI0.out)) (by (with_reducible repeat (first | apply Kd.S_alloc | apply Kd.S_drewN | apply Kd.S_drew)); exact HO_4.out) (by decide)) hk (fun _ h => h.2)) (fun _ h => h.1)); have n1_ := Aside0.mk (Kd.R_mono (Kd.R_keep (IsS90.apart (show IsS90 w0 _ g s0_0 t147 from by repeat (first | (with_reducible first | exact HI0.out | apply IsS90.alloc | apply IsS90.drewN | apply IsS90.drew | apply IsS90.set_1) | exact HI0.out)) (by (with_reducible repeat (first | apply Kd.R_alloc | apply Kd.R_drewN | apply Kd.R_drew)); exact HO_6.out) (by decide)) hk (fun _ h => h.2)) (fun _ h => h.1)); have n2_ := Aside0.mk (KeepBut.trans (by repeat (first | (with_reducible first | exact HK.out | apply KeepBut.set_ | apply keep_drewN | apply keep_drew | apply keep_alloc) | exact HK.out)) hk (.inl rfl)); have n3_ := Aside0.mk (hb); have n4_ := Aside0.mk (hi); clear HO_4; clear HO_6; clear HK; clear HB; clear HI0; have HO_4 := n0_; have HO_6 := n1_; have HK := n2_; have HB := n3_; have HI0 := n4_; clear n0_ n1_ n2_ n3_ n4_; (try clear hb); (try clear hb2); (try clear hk); (try clear hi)))
            go_meet
            case rel => exact ⟨_, (0), (t149), (by first | rfl | (simp; done) | (simp [*]; done)), H', ⟨by have := HK1.out; have := HK2.out; have := HJ10.out; first | omega | exact Nat.le_refl _⟩, ⟨by (with_reducible repeat (first | apply Kd.S_alloc | apply Kd.S_drewN | apply Kd.S_drew)); exact HO_4.out⟩, ⟨by (with_reducible repeat (first | apply Kd.R_alloc | apply Kd.R_drewN | apply Kd.R_drew)); exact HO_6.out⟩, ⟨by repeat (first | (with_reducible first | exact HI0.out | apply IsS90.alloc | apply IsS90.drewN | apply IsS90.drew | apply IsS90.set_1) | exact HI0.out)⟩, ⟨by repeat (first | (with_reducible first | exact HK.out | apply KeepBut.set_ | apply keep_drewN | apply keep_drew | apply keep_alloc) | exact HK.out)⟩, ⟨by repeat (first | (with_reducible first | exact HB.out | apply below_alloc | apply pw_below_drewN | apply below_drew1 | refine below_set ?_ (IsS90.ge HI0.out)) | exact HB.out)⟩⟩
           ·rw [if_neg c21] at H
            have c21b0 : decide ((wrap64 ((wrap64 (x5_1 - 1)) - (Int.tmod t148 3))) < 0) = false := decide_eq_false c21
            clear c21
            (first | rw [c21b0] | (simp only [i64_w, i32_w]; rw [c21b0]) | skip)
            have H' := Aside0.mk H
            clear H
            go_wp2_with (first | ((with_reducible refine gate_callee (f := 46) rfl ?_); refine goesL_ (some 45) rfl rfl Try.func46 (by kernel_rfl) rfl #[.pointer (some ⟨g, 0, none⟩), .int .i64 x5_1] rfl (by (try simp only [List.map_toArray, List.map_cons, List.map_nil]); first | done | rfl | (simp only [List.length_drop, List.length_take]; rfl)) ?_; (with_reducible refine (spec_l1Rd_below.calls g s0_0 t147 x5_1 t148 t149 w0 _ ?side1 ?side2 A20.out).mono ?_); (case side1 => repeat (first | (with_reducible first | exact HI0.out | apply IsS90.alloc | apply IsS90.drewN | apply IsS90.drew | apply IsS90.set_1) | exact HI0.out)); (case side2 => repeat (first | (with_reducible first | exact HB.out | apply below_alloc | apply pw_below_drewN | apply below_drew1 | refine below_set ?_ (IsS90.ge HI0.out)) | exact HB.out)); rintro e w23 ⟨rfl, hi, hb, hk⟩; refine ⟨_, rfl, ?_⟩; have n0_ := Aside0.mk (Kd.S_mono (Kd.S_keep (IsS90.apartS (show IsS90 w0 _ g s0_0 t147 from by repeat (first | (with_reducible first | exact HI0.out | apply IsS90.alloc | apply IsS90.drewN | apply IsS90.drew | apply IsS90.set_1) | exact HI0.out)) (by (with_reducible repeat (first | apply Kd.S_alloc | apply Kd.S_drewN | apply Kd.S_drew)); exact HO_4.out) (by decide)) hk (fun _ h => h.2)) (fun _ h => h.1)); have n1_ := Aside0.mk (Kd.R_mono (Kd.R_keep (IsS90.apart (show IsS90 w0 _ g s0_0 t147 from by repeat (first | (with_reducible first | exact HI0.out | apply IsS90.alloc | apply IsS90.drewN | apply IsS90.drew | apply IsS90.set_1) | exact HI0.out)) (by (with_reducible repeat (first | apply Kd.R_alloc | apply Kd.R_drewN | apply Kd.R_drew)); exact HO_6.out) (by decide)) hk (fun _ h => h.2)) (fun _ h => h.1)); have n2_ := Aside0.mk (KeepBut.trans (by repeat (first | (with_reducible first | exact HK.out | apply KeepBut.set_ | apply keep_drewN | apply keep_drew | apply keep_alloc) | exact HK.out)) hk (.inl rfl)); have n3_ := Aside0.mk (hb); have n4_ := Aside0.mk (hi); clear HO_4; clear HO_6; clear HK; clear HB; clear HI0; have HO_4 := n0_; have HO_6 := n1_; have HK := n2_; have HB := n3_; have HI0 := n4_; clear n0_ n1_ n2_ n3_ n4_; (try clear hb); (try clear hb2); (try clear hk); (try clear hi)))
            go_meet
            case rel => exact ⟨_, (wrap64 ((wrap64 (x5_1 - 1)) - (Int.tmod t148 3))), (t149), (by first | rfl | (simp; done) | (simp [*]; done)), H', ⟨by have := HK1.out; have := HK2.out; have := HJ10.out; first | omega | exact Nat.le_refl _⟩, ⟨by (with_reducible repeat (first | apply Kd.S_alloc | apply Kd.S_drewN | apply Kd.S_drew)); exact HO_4.out⟩, ⟨by (with_reducible repeat (first | apply Kd.R_alloc | apply Kd.R_drewN | apply Kd.R_drew)); exact HO_6.out⟩, ⟨by repeat (first | (with_reducible first | exact HI0.out | apply IsS90.alloc | apply IsS90.drewN | apply IsS90.drew | apply IsS90.set_1) | exact HI0.out)⟩, ⟨by repeat (first | (with_reducible first | exact HK.out | apply KeepBut.set_ | apply keep_drewN | apply keep_drew | apply keep_alloc) | exact HK.out)⟩, ⟨by repeat (first | (with_reducible first | exact HB.out | apply below_alloc | apply pw_below_drewN | apply below_drew1 | refine below_set ?_ (IsS90.ge HI0.out)) | exact HB.out)⟩⟩
          ·replace c19 := Bool.eq_false_iff.mpr c19
           subst c19
           have H1 : (spec_l9Draw.j3 kj10 t134 x4_1 x5_1 x6_2 t142 x8_2 t144 s0_0 t147) = some (r1, r2) := by rw [if_neg (show ¬ (false = true) by decide)] at H; exact H
           clear H
           have H := H1
           clear H1
           have H' := Aside0.mk H
           clear H
           go_wp2
           go_meet
           case rel => exact ⟨_, (t144), (t147), (by first | rfl | (simp; done) | (simp [*]; done)), H', ⟨by have := HK1.out; have := HK2.out; have := HJ10.out; first | omega | exact Nat.le_refl _⟩, ⟨by (with_reducible repeat (first | apply Kd.S_alloc | apply Kd.S_drewN | apply Kd.S_drew)); exact HO_4.out⟩, ⟨by (with_reducible repeat (first | apply Kd.R_alloc | apply Kd.R_drewN | apply Kd.R_drew)); exact HO_6.out⟩, ⟨by repeat (first | (with_reducible first | exact HI0.out | apply IsS90.alloc | apply IsS90.drewN | apply IsS90.drew | apply IsS90.set_1) | exact HI0.out)⟩, ⟨by repeat (first | (with_reducible first | exact HK.out | apply KeepBut.set_ | apply keep_drewN | apply keep_drew | apply keep_alloc) | exact HK.out)⟩, ⟨by repeat (first | (with_reducible first | exact HB.out | apply below_alloc | apply pw_below_drewN | apply below_drew1 | refine below_set ?_ (IsS90.ge HI0.out)) | exact HB.out)⟩⟩
         case rest =>
          clear HC16
          try clear c1
          try clear c2
          try clear p2
          try clear c4
          try clear c6
          try clear c6b0
          try clear p6
          try clear c12
          try clear c12b0
          try clear c13
          try clear c19
          try clear c21
          try clear c21b0
          try clear p2
          obtain ⟨kq, x9_15, x1001_15, rfl, HA, HJ15, HO_4, HO_6, HI0, HK, HB⟩ := hcut
          cases kq with
          | zero => exact absurd HA.out (by simp [spec_l9Draw.j3])
          | succ kj15 =>
           have H := HA.out
           clear HA
           simp only [spec_l9Draw.j3] at H
           have H' := Aside0.mk H
           clear H
           go_wp2
           go_loopg [10, 11] kj15 (fun kq v10 v11 w' => ∃ (x10_5 : Bool) (x11_5 : Int), v10 = .bool x10_5 ∧ v11 = .int .i64 x11_5 ∧ Aside0 (spec_l9Draw.l2 kq t134 x4_1 x5_1 x6_2 t142 x8_2 x9_15 x10_5 x11_5 s0_0 x1001_15 = some (r1, r2)) ∧ Aside0 (kq ≤ kj15) ∧ Aside0 (Kd.S k41 41 w' w.heap.size (fun k_ => some k_ ≠ (u6 : Value).ownBlock) u4 x4_1) ∧ Aside0 (Kd.R (Kd.int .i64) 2 w' w.heap.size (fun _ => True) u6 x6_2) ∧ Aside0 (IsS90 w0 w' g s0_0 x1001_15) ∧ Aside0 (KeepBut w w' g none) ∧ Aside0 (Below w0.heap.size w0 w'))
           case atStart => exact ⟨(false), (0), (by first | rfl | (simp; done) | (simp [*]; done)), (by first | rfl | (simp; done) | (simp [*]; done)), H', ⟨Nat.le_refl _⟩, ⟨by (with_reducible repeat (first | apply Kd.S_alloc | apply Kd.S_drewN | apply Kd.S_drew)); exact HO_4.out⟩, ⟨by (with_reducible repeat (first | apply Kd.R_alloc | apply Kd.R_drewN | apply Kd.R_drew)); exact HO_6.out⟩, ⟨by repeat (first | (with_reducible first | exact HI0.out | apply IsS90.alloc | apply IsS90.drewN | apply IsS90.drew | apply IsS90.set_1) | exact HI0.out)⟩, ⟨by repeat (first | (with_reducible first | exact HK.out | apply KeepBut.set_ | apply keep_drewN | apply keep_drew | apply keep_alloc) | exact HK.out)⟩, ⟨by repeat (first | (with_reducible first | exact HB.out | apply below_alloc | apply pw_below_drewN | apply below_drew1 | refine below_set ?_ (IsS90.ge HI0.out)) | exact HB.out)⟩⟩
           case round =>
            clear H'
            try clear c1
            try clear c2
            try clear p2
            try clear c4
            try clear c6
            try clear c6b0
            try clear p6
            try clear c12
            try clear c12b0
            try clear c13
            try clear c19
            try clear c21
            try clear c21b0
            try clear p2
            try clear p6
            obtain ⟨x10_5, x11_5, rfl, rfl, HA, HK5, HO_4, HO_6, HI0, HK, HB⟩ := hrel
            cases gk with
            | zero => exact absurd HA.out (by simp [spec_l9Draw.l2])
            | succ k5 =>
             have H := HA.out
             clear HA
             simp only [spec_l9Draw.l2] at H
             by_cases c24 : x11_5 < (x6_2.length : Int)
             ·rw [if_pos c24] at H
              have c24b0 : decide (x11_5 < (x6_2.length : Int)) = true := decide_eq_true c24
              clear c24
              by_cases c25 : x10_5 = true
              ·subst c25
               have H1 : (spec_l9Draw.l2 k5 t134 x4_1 x5_1 x6_2 t142 x8_2 x9_15 true (wrap64 (x11_5 + 1)) s0_0 x1001_15) = some (r1, r2) := by rw [if_pos rfl] at H; exact H
               clear H
               have H := H1
               clear H1
               have H' := Aside0.mk H
               clear H
               obtain ⟨Ao26, co26, eo26⟩ := Kd.R_slice HO_6.out
               subst eo26
               go_wp2
               go_roundg k5
               case measure => have := HK1.out; have := HK2.out; have := HJ10.out; have := HJ15.out; have := HK5.out; omega
               case rel => exact ⟨(true), (wrap64 (x11_5 + 1)), (by first | rfl | (simp; done) | (simp [*]; done)), (by first | rfl | (simp; done) | (simp [*]; done)), H', ⟨by have := HK1.out; have := HK2.out; have := HJ10.out; have := HJ15.out; have := HK5.out; omega⟩, ⟨by (with_reducible repeat (first | apply Kd.S_alloc | apply Kd.S_drewN | apply Kd.S_drew)); exact HO_4.out⟩, ⟨by (with_reducible repeat (first | apply Kd.R_alloc | apply Kd.R_drewN | apply Kd.R_drew)); exact HO_6.out⟩, ⟨by repeat (first | (with_reducible first | exact HI0.out | apply IsS90.alloc | apply IsS90.drewN | apply IsS90.drew | apply IsS90.set_1) | exact HI0.out)⟩, ⟨by repeat (first | (with_reducible first | exact HK.out | apply KeepBut.set_ | apply keep_drewN | apply keep_drew | apply keep_alloc) | exact HK.out)⟩, ⟨by repeat (first | (with_reducible first | exact HB.out | apply below_alloc | apply pw_below_drewN | apply below_drew1 | refine below_set ?_ (IsS90.ge HI0.out)) | exact HB.out)⟩⟩
              ·replace c25 := Bool.eq_false_iff.mpr c25
               subst c25
               have H1 : (if 0 ≤ x11_5 then (spec_l9Draw.l2 k5 t134 x4_1 x5_1 x6_2 t142 x8_2 x9_15 ((rd x6_2 x11_5) == x9_15) (wrap64 (x11_5 + 1)) s0_0 x1001_15) else (none)) = some (r1, r2) := by rw [if_neg (show ¬ (false = true) by decide)] at H; exact H
               clear H
               have H := H1
               clear H1
               by_cases c27 : 0 ≤ x11_5
               ·rw [if_pos c27] at H
                have c27b0 : decide (0 ≤ x11_5) = true := decide_eq_true c27
                clear c27
                have H' := Aside0.mk H
                clear H
                obtain ⟨Ao28, co28, eo28⟩ := Kd.R_slice HO_6.out
                subst eo28
                have p150 : 0 ≤ (x11_5 : Int) := of_decide_eq_true (by first | (with_reducible assumption) | assumption)
                have q150 : x11_5 < (x6_2.length : Int) := of_decide_eq_true (by first | (with_reducible assumption) | assumption)
                obtain ⟨ad150, e150, hx150_0⟩ := Kd.at_int (Kd.R_reads' HO_6.out).2.2 x11_5 p150 q150
                cases e150
                replace p150 := eq_true p150
                replace q150 := eq_true q150
                go_wp2
                go_roundg k5
                case measure => have := HK1.out; have := HK2.out; have := HJ10.out; have := HJ15.out; have := HK5.out; omega
                case rel => exact ⟨(((rd x6_2 x11_5) == x9_15)), (wrap64 (x11_5 + 1)), (by first | rfl | (simp; done) | (simp [*]; done)), (by first | rfl | (simp; done) | (simp [*]; done)), H', ⟨by have := HK1.out; have := HK2.out; have := HJ10.out; have := HJ15.out; have := HK5.out; omega⟩, ⟨by (with_reducible repeat (first | apply Kd.S_alloc | apply Kd.S_drewN | apply Kd.S_drew)); exact HO_4.out⟩, ⟨by (with_reducible repeat (first | apply Kd.R_alloc | apply Kd.R_drewN | apply Kd.R_drew)); exact HO_6.out⟩, ⟨by repeat (first | (with_reducible first | exact HI0.out | apply IsS90.alloc | apply IsS90.drewN | apply IsS90.drew | apply IsS90.set_1) | exact HI0.out)⟩, ⟨by repeat (first | (with_reducible first | exact HK.out | apply KeepBut.set_ | apply keep_drewN | apply keep_drew | apply keep_alloc) | exact HK.out)⟩, ⟨by repeat (first | (with_reducible first | exact HB.out | apply below_alloc | apply pw_below_drewN | apply below_drew1 | refine below_set ?_ (IsS90.ge HI0.out)) | exact HB.out)⟩⟩
               ·rw [if_neg c27] at H
                exact absurd H (by simp)
             ·rw [if_neg c24] at H
              have c24b0 : decide (x11_5 < (x6_2.length : Int)) = false := decide_eq_false c24
              clear c24
              by_cases c29 : x10_5 = true
              ·subst c29
               have H1 : ((spec_l1Rd_once.f s0_0 x1001_15 50).bind fun bt151 => (if bt151.1 = true then (if x6_2.length < 17592186044416 then (spec_l9Draw.l1 k5 t134 x4_1 x5_1 (x6_2 ++ [x9_15]) t142 (wrap64 (x8_2 + 1)) s0_0 bt151.2) else (none)) else (spec_l9Draw.l1 k5 t134 x4_1 x5_1 x6_2 t142 (wrap64 (x8_2 + 1)) s0_0 bt151.2))) = some (r1, r2) := by rw [if_pos rfl] at H; exact H
               clear H
               have H := H1
               clear H1
               replace H := Option.bind_eq_some_iff.mp H
               obtain ⟨⟨t151, t152⟩, A300, H⟩ := H
               replace H : (if t151 = true then (if x6_2.length < 17592186044416 then (spec_l9Draw.l1 k5 t134 x4_1 x5_1 (x6_2 ++ [x9_15]) t142 (wrap64 (x8_2 + 1)) s0_0 t152) else (none)) else (spec_l9Draw.l1 k5 t134 x4_1 x5_1 x6_2 t142 (wrap64 (x8_2 + 1)) s0_0 t152)) = some (r1, r2) := H
               have A30 := Aside0.mk A300
               clear A300
               by_cases c31 : t151 = true
               ·subst c31
                have H1 : (if x6_2.length < 17592186044416 then (spec_l9Draw.l1 k5 t134 x4_1 x5_1 (x6_2 ++ [x9_15]) t142 (wrap64 (x8_2 + 1)) s0_0 t152) else (none)) = some (r1, r2) := by rw [if_pos rfl] at H; exact H
                clear H
                have H := H1
                clear H1
                by_cases c32 : x6_2.length < 17592186044416
                ·rw [if_pos c32] at H
                 have LMc32 := Aside0.mk c32
                 clear c32
                 obtain ⟨y153, hy153⟩ : ∃ y_ : List Int, y_ = (x6_2 ++ [x9_15]) := ⟨_, rfl⟩
                 replace H : (spec_l9Draw.l1 k5 t134 x4_1 x5_1 y153 t142 (wrap64 (x8_2 + 1)) s0_0 t152) = some (r1, r2) := by first | (rw [hy153]; with_reducible exact H) | (have H2_ := (Option.bind_some _ _).symm.trans H; rw [hy153]; with_reducible exact H2_) | (have H2_ := (Option.bind_some _ _).symm.trans H; with_reducible exact H2_) | with_reducible exact H | (rw [hy153]; exact H) | exact H
                 have Ny153 := Aside0.mk hy153
                 clear hy153
                 have H' := Aside0.mk H
                 clear H
                 obtain ⟨Ao33, co33, eo33⟩ := Kd.R_slice HO_6.out
                 subst eo33
                 go_wp2_with (first | (go_at_call 47; (with_reducible refine (spec_l1Rd_once.calls g s0_0 x1001_15 50 true t152 w0 _ ?side1 ?side2 A30.out).mono ?_); (case side1 => repeat (first | (with_reducible first | exact HI0.out | apply IsS90.alloc | apply IsS90.drewN | apply IsS90.drew | apply IsS90.set_1) | exact HI0.out)); (case side2 => repeat (first | (with_reducible first | exact HB.out | apply below_alloc | apply pw_below_drewN | apply below_drew1 | refine below_set ?_ (IsS90.ge HI0.out)) | exact HB.out)); rintro e w34 ⟨rfl, hi, hb, hk⟩; have n0_ := Aside0.mk (Kd.S_mono (Kd.S_keep (IsS90.apartS (show IsS90 w0 _ g s0_0 x1001_15 from by repeat (first | (with_reducible first | exact HI0.out | apply IsS90.alloc | apply IsS90.drewN | apply IsS90.drew | apply IsS90.set_1) | exact HI0.out)) (by (with_reducible repeat (first | apply Kd.S_alloc | apply Kd.S_drewN | apply Kd.S_drew)); exact HO_4.out) (by decide)) hk (fun _ h => h.2)) (fun _ h => h.1)); have n1_ := Aside0.mk (Kd.R_mono (Kd.R_keep (IsS90.apart (show IsS90 w0 _ g s0_0 x1001_15 from by repeat (first | (with_reducible first | exact HI0.out | apply IsS90.alloc | apply IsS90.drewN | apply IsS90.drew | apply IsS90.set_1) | exact HI0.out)) (by (with_reducible repeat (first | apply Kd.R_alloc | apply Kd.R_drewN | apply Kd.R_drew)); exact HO_6.out) (by decide)) hk (fun _ h => h.2)) (fun _ h => h.1)); have n2_ := Aside0.mk (KeepBut.trans (by repeat (first | (with_reducible first | exact HK.out | apply KeepBut.set_ | apply keep_drewN | apply keep_drew | apply keep_alloc) | exact HK.out)) hk (.inl rfl)); have n3_ := Aside0.mk (hb); have n4_ := Aside0.mk (hi); clear HO_4; clear HO_6; clear HK; clear HB; clear HI0; have HO_4 := n0_; have HO_6 := n1_; have HK := n2_; have HB := n3_; have HI0 := n4_; clear n0_ n1_ n2_ n3_ n4_; (try clear hb); (try clear hb2); (try clear hk); (try clear hi)) | ((with_reducible refine gate_builtin (b := .append) (xs := #[.tmp 71, .tmp 73]) rfl ?_); (try (refine gate_guard (by rfl) ?_; dsimp only)); at_builtin; refine Kd.R_append (Kd.int .i64) w.heap.size rfl (.tmp 71) (.tmp 73) 37 2 (.int .i64 0) 8 rfl Try.underlying37 info2 rfl (by decide) (by omega) (.slice Ao33 x6_2.length co33) x6_2 x9_15 [.int .i64 x9_15] (fun _ => True) (fun _ => False) rfl rfl ?aP (fun _ hk => hk.elim) ?aF ?aO (Below.refl _ _) ?aS ?aL ?_; (case aP => exact rfl); (case aF => exact (fun _ _ => trivial)); (case aO => exact (by (with_reducible repeat (first | apply Kd.R_alloc | apply Kd.R_drewN | apply Kd.R_drew)); exact HO_6.out)); (case aS => exact (keep_size (w := w) (g := g) (row := none) (by repeat (first | (with_reducible first | exact HK.out | apply KeepBut.set_ | apply keep_drewN | apply keep_drew | apply keep_alloc) | exact HK.out)))); (case aL => have := LMc32.out; omega); intro v154 w35 ho hb hg hat; rw [← Ny153.out] at ho; have n0_ := Aside0.mk (Kd.S_after (ok := (fun _ => True)) (by (with_reducible repeat (first | apply Kd.S_alloc | apply Kd.S_drewN | apply Kd.S_drew)); exact Kd.S_mono HO_4.out (fun _ hk => ⟨trivial, hk⟩)) hg hat); have n1_ := Aside0.mk (IsS90.grown (by repeat (first | (with_reducible first | exact HI0.out | apply IsS90.alloc | apply IsS90.drewN | apply IsS90.drew | apply IsS90.set_1) | exact HI0.out)) hg (IsS90.own_ne HI0.out HO_6.out (by decide))); have n2_ := Aside0.mk (below_weaken (by repeat (first | (with_reducible first | exact HB.out | apply below_alloc | apply pw_below_drewN | apply below_drew1 | refine below_set ?_ (IsS90.ge HI0.out)) | exact HB.out)) HL.out hb); have n3_ := Aside0.mk (KeepBut.trans (by repeat (first | (with_reducible first | exact HK.out | apply KeepBut.set_ | apply keep_drewN | apply keep_drew | apply keep_alloc) | exact HK.out)) (KeepBut.of_grown hg g) (Kd.R_base2 HO_6.out)); have n4_ := Aside0.mk (ho); clear HO_4; clear HI0; clear HB; clear HK; clear HO_6; have HO_4 := n0_; have HI0 := n1_; have HB := n2_; have HK := n3_; have HO155 := n4_; clear n0_ n1_ n2_ n3_ n4_; clear ho hb hg hat))
                 go_roundg k5
                 case measure => have := HK1.out; have := HK2.out; have := HJ10.out; have := HJ15.out; have := HK5.out; omega
                 case rel => exact ⟨(y153), (wrap64 (x8_2 + 1)), (t152), (by first | rfl | (simp; done) | (simp [*]; done)), H', ⟨by have := HK1.out; have := HK2.out; have := HJ10.out; have := HJ15.out; have := HK5.out; omega⟩, ⟨by (with_reducible repeat (first | apply Kd.S_alloc | apply Kd.S_drewN | apply Kd.S_drew)); exact Kd.S_mono HO_4.out (fun _ hk => hk.2)⟩, ⟨by (with_reducible repeat (first | apply Kd.R_alloc | apply Kd.R_drewN | apply Kd.R_drew)); exact HO155.out⟩, ⟨by repeat (first | (with_reducible first | exact HI0.out | apply IsS90.alloc | apply IsS90.drewN | apply IsS90.drew | apply IsS90.set_1) | exact HI0.out)⟩, ⟨by repeat (first | (with_reducible first | exact HK.out | apply KeepBut.set_ | apply keep_drewN | apply keep_drew | apply keep_alloc) | exact HK.out)⟩, ⟨by repeat (first | (with_reducible first | exact HB.out | apply below_alloc | apply pw_below_drewN | apply below_drew1 | refine below_set ?_ (IsS90.ge HI0.out)) | exact HB.out)⟩⟩
                ·rw [if_neg c32] at H
                 exact absurd H (by simp)
               ·replace c31 := Bool.eq_false_iff.mpr c31
                subst c31
                have H1 : (spec_l9Draw.l1 k5 t134 x4_1 x5_1 x6_2 t142 (wrap64 (x8_2 + 1)) s0_0 t152) = some (r1, r2) := by rw [if_neg (show ¬ (false = true) by decide)] at H; exact H
                clear H
                have H := H1
                clear H1
                have H' := Aside0.mk H
                clear H
                obtain ⟨Ao36, co36, eo36⟩ := Kd.R_slice HO_6.out
                subst eo36
                go_wp2_with (first | (go_at_call 47; (with_reducible refine (spec_l1Rd_once.calls g s0_0 x1001_15 50 false t152 w0 _ ?side1 ?side2 A30.out).mono ?_); (case side1 => repeat (first | (with_reducible first | exact HI0.out | apply IsS90.alloc | apply IsS90.drewN | apply IsS90.drew | apply IsS90.set_1) | exact HI0.out)); (case side2 => repeat (first | (with_reducible first | exact HB.out | apply below_alloc | apply pw_below_drewN | apply below_drew1 | refine below_set ?_ (IsS90.ge HI0.out)) | exact HB.out)); rintro e w37 ⟨rfl, hi, hb, hk⟩; have n0_ := Aside0.mk (Kd.S_mono (Kd.S_keep (IsS90.apartS (show IsS90 w0 _ g s0_0 x1001_15 from by repeat (first | (with_reducible first | exact HI0.out | apply IsS90.alloc | apply IsS90.drewN | apply IsS90.drew | apply IsS90.set_1) | exact HI0.out)) (by (with_reducible repeat (first | apply Kd.S_alloc | apply Kd.S_drewN | apply Kd.S_drew)); exact HO_4.out) (by decide)) hk (fun _ h => h.2)) (fun _ h => h.1)); have n1_ := Aside0.mk (Kd.R_mono (Kd.R_keep (IsS90.apart (show IsS90 w0 _ g s0_0 x1001_15 from by repeat (first | (with_reducible first | exact HI0.out | apply IsS90.alloc | apply IsS90.drewN | apply IsS90.drew | apply IsS90.set_1) | exact HI0.out)) (by (with_reducible repeat (first | apply Kd.R_alloc | apply Kd.R_drewN | apply Kd.R_drew)); exact HO_6.out) (by decide)) hk (fun _ h => h.2)) (fun _ h => h.1)); have n2_ := Aside0.mk (KeepBut.trans (by repeat (first | (with_reducible first | exact HK.out | apply KeepBut.set_ | apply keep_drewN | apply keep_drew | apply keep_alloc) | exact HK.out)) hk (.inl rfl)); have n3_ := Aside0.mk (hb); have n4_ := Aside0.mk (hi); clear HO_4; clear HO_6; clear HK; clear HB; clear HI0; have HO_4 := n0_; have HO_6 := n1_; have HK := n2_; have HB := n3_; have HI0 := n4_; clear n0_ n1_ n2_ n3_ n4_; (try clear hb); (try clear hb2); (try clear hk); (try clear hi)))
                go_roundg k5
                case measure => have := HK1.out; have := HK2.out; have := HJ10.out; have := HJ15.out; have := HK5.out; omega
                case rel => exact ⟨(x6_2), (wrap64 (x8_2 + 1)), (t152), (by first | rfl | (simp; done) | (simp [*]; done)), H', ⟨by have := HK1.out; have := HK2.out; have := HJ10.out; have := HJ15.out; have := HK5.out; omega⟩, ⟨by (with_reducible repeat (first | apply Kd.S_alloc | apply Kd.S_drewN | apply Kd.S_drew)); exact HO_4.out⟩, ⟨by (with_reducible repeat (first | apply Kd.R_alloc | apply Kd.R_drewN | apply Kd.R_drew)); exact HO_6.out⟩, ⟨by repeat (first | (with_reducible first | exact HI0.out | apply IsS90.alloc | apply IsS90.drewN | apply IsS90.drew | apply IsS90.set_1) | exact HI0.out)⟩, ⟨by repeat (first | (with_reducible first | exact HK.out | apply KeepBut.set_ | apply keep_drewN | apply keep_drew | apply keep_alloc) | exact HK.out)⟩, ⟨by repeat (first | (with_reducible first | exact HB.out | apply below_alloc | apply pw_below_drewN | apply below_drew1 | refine below_set ?_ (IsS90.ge HI0.out)) | exact HB.out)⟩⟩
              ·replace c29 := Bool.eq_false_iff.mpr c29
               subst c29
               have H1 : (if x6_2.length < 17592186044416 then (spec_l9Draw.l1 k5 t134 x4_1 x5_1 (x6_2 ++ [x9_15]) t142 (wrap64 (x8_2 + 1)) s0_0 x1001_15) else (none)) = some (r1, r2) := by rw [if_neg (show ¬ (false = true) by decide)] at H; exact H
               clear H
               have H := H1
               clear H1
               by_cases c38 : x6_2.length < 17592186044416
               ·rw [if_pos c38] at H
                have LMc38 := Aside0.mk c38
                clear c38
                obtain ⟨y156, hy156⟩ : ∃ y_ : List Int, y_ = (x6_2 ++ [x9_15]) := ⟨_, rfl⟩
                replace H : (spec_l9Draw.l1 k5 t134 x4_1 x5_1 y156 t142 (wrap64 (x8_2 + 1)) s0_0 x1001_15) = some (r1, r2) := by first | (rw [hy156]; with_reducible exact H) | (have H2_ := (Option.bind_some _ _).symm.trans H; rw [hy156]; with_reducible exact H2_) | (have H2_ := (Option.bind_some _ _).symm.trans H; with_reducible exact H2_) | with_reducible exact H | (rw [hy156]; exact H) | exact H
                have Ny156 := Aside0.mk hy156
                clear hy156
                have H' := Aside0.mk H
                clear H
                obtain ⟨Ao39, co39, eo39⟩ := Kd.R_slice HO_6.out
                subst eo39
                go_wp2_with (first | ((with_reducible refine gate_builtin (b := .append) (xs := #[.tmp 71, .tmp 73]) rfl ?_); (try (refine gate_guard (by rfl) ?_; dsimp only)); at_builtin; refine Kd.R_append (Kd.int .i64) w.heap.size rfl (.tmp 71) (.tmp 73) 37 2 (.int .i64 0) 8 rfl Try.underlying37 info2 rfl (by decide) (by omega) (.slice Ao39 x6_2.length co39) x6_2 x9_15 [.int .i64 x9_15] (fun _ => True) (fun _ => False) rfl rfl ?aP (fun _ hk => hk.elim) ?aF ?aO (Below.refl _ _) ?aS ?aL ?_; (case aP => exact rfl); (case aF => exact (fun _ _ => trivial)); (case aO => exact (by (with_reducible repeat (first | apply Kd.R_alloc | apply Kd.R_drewN | apply Kd.R_drew)); exact HO_6.out)); (case aS => exact (keep_size (w := w) (g := g) (row := none) (by repeat (first | (with_reducible first | exact HK.out | apply KeepBut.set_ | apply keep_drewN | apply keep_drew | apply keep_alloc) | exact HK.out)))); (case aL => have := LMc38.out; omega); intro v157 w40 ho hb hg hat; rw [← Ny156.out] at ho; have n0_ := Aside0.mk (Kd.S_after (ok := (fun _ => True)) (by (with_reducible repeat (first | apply Kd.S_alloc | apply Kd.S_drewN | apply Kd.S_drew)); exact Kd.S_mono HO_4.out (fun _ hk => ⟨trivial, hk⟩)) hg hat); have n1_ := Aside0.mk (IsS90.grown (by repeat (first | (with_reducible first | exact HI0.out | apply IsS90.alloc | apply IsS90.drewN | apply IsS90.drew | apply IsS90.set_1) | exact HI0.out)) hg (IsS90.own_ne HI0.out HO_6.out (by decide))); have n2_ := Aside0.mk (below_weaken (by repeat (first | (with_reducible first | exact HB.out | apply below_alloc | apply pw_below_drewN | apply below_drew1 | refine below_set ?_ (IsS90.ge HI0.out)) | exact HB.out)) HL.out hb); have n3_ := Aside0.mk (KeepBut.trans (by repeat (first | (with_reducible first | exact HK.out | apply KeepBut.set_ | apply keep_drewN | apply keep_drew | apply keep_alloc) | exact HK.out)) (KeepBut.of_grown hg g) (Kd.R_base2 HO_6.out)); have n4_ := Aside0.mk (ho); clear HO_4; clear HI0; clear HB; clear HK; clear HO_6; have HO_4 := n0_; have HI0 := n1_; have HB := n2_; have HK := n3_; have HO158 := n4_; clear n0_ n1_ n2_ n3_ n4_; clear ho hb hg hat))
                go_roundg k5
                case measure => have := HK1.out; have := HK2.out; have := HJ10.out; have := HJ15.out; have := HK5.out; omega
                case rel => exact ⟨(y156), (wrap64 (x8_2 + 1)), (x1001_15), (by first | rfl | (simp; done) | (simp [*]; done)), H', ⟨by have := HK1.out; have := HK2.out; have := HJ10.out; have := HJ15.out; have := HK5.out; omega⟩, ⟨by (with_reducible repeat (first | apply Kd.S_alloc | apply Kd.S_drewN | apply Kd.S_drew)); exact Kd.S_mono HO_4.out (fun _ hk => hk.2)⟩, ⟨by (with_reducible repeat (first | apply Kd.R_alloc | apply Kd.R_drewN | apply Kd.R_drew)); exact HO158.out⟩, ⟨by repeat (first | (with_reducible first | exact HI0.out | apply IsS90.alloc | apply IsS90.drewN | apply IsS90.drew | apply IsS90.set_1) | exact HI0.out)⟩, ⟨by repeat (first | (with_reducible first | exact HK.out | apply KeepBut.set_ | apply keep_drewN | apply keep_drew | apply keep_alloc) | exact HK.out)⟩, ⟨by repeat (first | (with_reducible first | exact HB.out | apply below_alloc | apply pw_below_drewN | apply below_drew1 | refine below_set ?_ (IsS90.ge HI0.out)) | exact HB.out)⟩⟩
               ·rw [if_neg c38] at H
                exact absurd H (by simp)
        ·replace c13 := Bool.eq_false_iff.mpr c13
         subst c13
         have H1 : ((spec_l1Rd_once.f s0_0 x1001_2 4).bind fun bt159 => (if bt159.1 = true then ((spec_l9DrawAttrs.f kj10 s0_0 bt159.2).bind fun bt161 => (if x4_1.length < 2932031007402 then (spec_l9Draw.l0 kj10 t134 (x4_1 ++ [(⟨x6_2, bt161.1⟩ : S41)]) (wrap64 (x5_1 + 1)) s0_0 bt161.2) else (none))) else (spec_l9Draw.l3 kj10 t134 x4_1 x5_1 x6_2 0 s0_0 bt159.2))) = some (r1, r2) := by rw [if_neg (show ¬ (false = true) by decide)] at H; exact H
         clear H
         have H := H1
         clear H1
         replace H := Option.bind_eq_some_iff.mp H
         obtain ⟨⟨t159, t160⟩, A410, H⟩ := H
         replace H : (if t159 = true then ((spec_l9DrawAttrs.f kj10 s0_0 t160).bind fun bt161 => (if x4_1.length < 2932031007402 then (spec_l9Draw.l0 kj10 t134 (x4_1 ++ [(⟨x6_2, bt161.1⟩ : S41)]) (wrap64 (x5_1 + 1)) s0_0 bt161.2) else (none))) else (spec_l9Draw.l3 kj10 t134 x4_1 x5_1 x6_2 0 s0_0 t160)) = some (r1, r2) := H
         have A41 := Aside0.mk A410
         clear A410
         by_cases c42 : t159 = true
         ·subst c42
          have H1 : ((spec_l9DrawAttrs.f kj10 s0_0 t160).bind fun bt161 => (if x4_1.length < 2932031007402 then (spec_l9Draw.l0 kj10 t134 (x4_1 ++ [(⟨x6_2, bt161.1⟩ : S41)]) (wrap64 (x5_1 + 1)) s0_0 bt161.2) else (none))) = some (r1, r2) := by rw [if_pos rfl] at H; exact H
          clear H
          have H := H1
          clear H1
          replace H := Option.bind_eq_some_iff.mp H
          obtain ⟨⟨t161, t164⟩, A430, H⟩ := H
          replace H : (if x4_1.length < 2932031007402 then (spec_l9Draw.l0 kj10 t134 (x4_1 ++ [(⟨x6_2, t161⟩ : S41)]) (wrap64 (x5_1 + 1)) s0_0 t164) else (none)) = some (r1, r2) := H
          have A43 := Aside0.mk A430
          clear A430
          by_cases c44 : x4_1.length < 2932031007402
          ·rw [if_pos c44] at H
           have LMc44 := Aside0.mk c44
           clear c44
           obtain ⟨y165, hy165⟩ : ∃ y_ : List (S41), y_ = (x4_1 ++ [(⟨x6_2, t161⟩ : S41)]) := ⟨_, rfl⟩
           replace H : (spec_l9Draw.l0 kj10 t134 y165 (wrap64 (x5_1 + 1)) s0_0 t164) = some (r1, r2) := by first | (rw [hy165]; with_reducible exact H) | (have H2_ := (Option.bind_some _ _).symm.trans H; rw [hy165]; with_reducible exact H2_) | (have H2_ := (Option.bind_some _ _).symm.trans H; with_reducible exact H2_) | with_reducible exact H | (rw [hy165]; exact H) | exact H
           have Ny165 := Aside0.mk hy165
           clear hy165
           have H' := Aside0.mk H
           clear H
           go_wp2_with (first | ((with_reducible refine gate_callee (f := 47) rfl ?_); refine goesL_ (some 76) rfl rfl Try.func47 (by kernel_rfl) rfl #[.pointer (some ⟨g, 0, none⟩), .int .i64 4] rfl (by (try simp only [List.map_toArray, List.map_cons, List.map_nil]); first | done | rfl | (simp only [List.length_drop, List.length_take]; rfl)) ?_; (with_reducible refine (spec_l1Rd_once.calls g s0_0 x1001_2 4 true t160 w0 _ ?side1 ?side2 A41.out).mono ?_); (case side1 => repeat (first | (with_reducible first | exact HI0.out | apply IsS90.alloc | apply IsS90.drewN | apply IsS90.drew | apply IsS90.set_1) | exact HI0.out)); (case side2 => repeat (first | (with_reducible first | exact HB.out | apply below_alloc | apply pw_below_drewN | apply below_drew1 | refine below_set ?_ (IsS90.ge HI0.out)) | exact HB.out)); rintro e w45 ⟨rfl, hi, hb, hk⟩; refine ⟨_, rfl, ?_⟩; have n0_ := Aside0.mk (Kd.S_mono (Kd.S_keep (IsS90.apartS (show IsS90 w0 _ g s0_0 x1001_2 from by repeat (first | (with_reducible first | exact HI0.out | apply IsS90.alloc | apply IsS90.drewN | apply IsS90.drew | apply IsS90.set_1) | exact HI0.out)) (by (with_reducible repeat (first | apply Kd.S_alloc | apply Kd.S_drewN | apply Kd.S_drew)); exact HO_4.out) (by decide)) hk (fun _ h => h.2)) (fun _ h => h.1)); have n1_ := Aside0.mk (Kd.R_mono (Kd.R_keep (IsS90.apart (show IsS90 w0 _ g s0_0 x1001_2 from by repeat (first | (with_reducible first | exact HI0.out | apply IsS90.alloc | apply IsS90.drewN | apply IsS90.drew | apply IsS90.set_1) | exact HI0.out)) (by (with_reducible repeat (first | apply Kd.R_alloc | apply Kd.R_drewN | apply Kd.R_drew)); exact HO_6.out) (by decide)) hk (fun _ h => h.2)) (fun _ h => h.1)); have n2_ := Aside0.mk (KeepBut.trans (by repeat (first | (with_reducible first | exact HK.out | apply KeepBut.set_ | apply keep_drewN | apply keep_drew | apply keep_alloc) | exact HK.out)) hk (.inl rfl)); have n3_ := Aside0.mk (hb); have n4_ := Aside0.mk (hi); clear HO_4; clear HO_6; clear HK; clear HB; clear HI0; have HO_4 := n0_; have HO_6 := n1_; have HK := n2_; have HB := n3_; have HI0 := n4_; clear n0_ n1_ n2_ n3_ n4_; (try clear hb); (try clear hb2); (try clear hk); (try clear hi)) | ((with_reducible refine gate_callee (f := 48) rfl ?_); refine goesL_ (some 119) rfl rfl Try.func48 (by kernel_rfl) rfl #[.pointer (some ⟨g, 0, none⟩)] rfl (by (try simp only [List.map_toArray, List.map_cons, List.map_nil]); first | done | rfl | (simp only [List.length_drop, List.length_take]; rfl)) ?_; (with_reducible refine (spec_l9DrawAttrs.calls kj10 g s0_0 t160 t161 t164 w0 _ ?side1 ?side2 A43.out).mono ?_); (case side1 => repeat (first | (with_reducible first | exact HI0.out | apply IsS90.alloc | apply IsS90.drewN | apply IsS90.drew | apply IsS90.set_1) | exact HI0.out)); (case side2 => repeat (first | (with_reducible first | exact HB.out | apply below_alloc | apply pw_below_drewN | apply below_drew1 | refine below_set ?_ (IsS90.ge HI0.out)) | exact HB.out)); rintro e w46 ⟨v162, rfl, ho0, hi, hb, hk⟩; refine ⟨_, rfl, ?_⟩; have n0_ := Aside0.mk (Kd.S_mono (Kd.S_told (Kd.S_oldK (IsS90.apartS (show IsS90 w0 _ g s0_0 t160 from by repeat (first | (with_reducible first | exact HI0.out | apply IsS90.alloc | apply IsS90.drewN | apply IsS90.drew | apply IsS90.set_1) | exact HI0.out)) (by (with_reducible repeat (first | apply Kd.S_alloc | apply Kd.S_drewN | apply Kd.S_drew)); exact HO_4.out) (by decide)) hk) (Kd.R_base ho0)) (fun _ h_ => h_.1)); have n1_ := Aside0.mk (Kd.R_mono (Kd.R_keep (IsS90.apart (show IsS90 w0 _ g s0_0 t160 from by repeat (first | (with_reducible first | exact HI0.out | apply IsS90.alloc | apply IsS90.drewN | apply IsS90.drew | apply IsS90.set_1) | exact HI0.out)) (by (with_reducible repeat (first | apply Kd.R_alloc | apply Kd.R_drewN | apply Kd.R_drew)); exact HO_6.out) (by decide)) hk (fun _ h => h.2)) (fun _ h => h.1)); have n2_ := Aside0.mk (Kd.R_lower ho0 (keep_size (w := w) (g := g) (row := none) (by repeat (first | (with_reducible first | exact HK.out | apply KeepBut.set_ | apply keep_drewN | apply keep_drew | apply keep_alloc) | exact HK.out)))); have n3_ := Aside0.mk (KeepBut.trans (by repeat (first | (with_reducible first | exact HK.out | apply KeepBut.set_ | apply keep_drewN | apply keep_drew | apply keep_alloc) | exact HK.out)) hk (.inl rfl)); have n4_ := Aside0.mk (hb); have n5_ := Aside0.mk (hi); clear HO_4; clear HO_6; clear HK; clear HB; clear HI0; have HO_4 := n0_; have HO_6 := n1_; have HO163 := n2_; have HK := n3_; have HB := n4_; have HI0 := n5_; clear n0_ n1_ n2_ n3_ n4_ n5_; (try clear hb); (try clear hb2); (try clear hk); (try clear hi); (try clear ho0); obtain ⟨Ao47, co47, eo47⟩ := Kd.R_slice HO163.out; subst eo47; obtain ⟨Ao48, co48, eo48⟩ := Kd.R_slice HO_6.out; subst eo48) | ((with_reducible refine gate_builtin (b := .append) (xs := #[.tmp 116, .tmp 121]) rfl ?_); (try (refine gate_guard (by rfl) ?_; dsimp only)); at_builtin; refine Kd.S_append k41 w.heap.size rfl (.tmp 116) (.tmp 121) 25 41 (.agg #[(.slice none 0 0), (.slice none 0 0)]) 48 rfl Try.underlying25 info41 rfl (by decide) (by omega) u4 x4_1 (⟨x6_2, t161⟩ : S41) [.slice Ao48 x6_2.length co48, .slice Ao47 t161.length co47] (fun _ => True) (fun k_ => some k_ = (.slice Ao48 x6_2.length co48 : Value).ownBlock ∨ some k_ = (.slice Ao47 t161.length co47 : Value).ownBlock) rfl rfl ?aP (fun k_ hk_ => hk_.elim (fun h_ => ((Kd.R_mono (ok' := fun k_ => ((fun _ => True)) k_ ∧ some k_ ≠ (u4 : Value).ownBlock) (Kd.R_apart' (HO_6.out) (Kd.S_typed HO_4.out) (by decide)) (fun k_ hk => ⟨trivial, hk.2⟩))).1 k_ h_.symm) (fun h_ => ((Kd.R_mono (ok' := fun k_ => ((fun _ => True)) k_ ∧ some k_ ≠ (u4 : Value).ownBlock) (Kd.R_apart' (HO163.out) (Kd.S_typed HO_4.out) (by decide)) (fun k_ hk => ⟨trivial, hk.2⟩))).1 k_ h_.symm)) ?aF ?aO (Below.refl _ _) ?aS ?aL ?_; (case aP => exact k41_mkM _ _ _ (⟨x6_2, t161⟩ : S41) (Kd.R_mono (Kd.R_tight rfl (Kd.R_mono (ok' := fun k_ => ((fun _ => True)) k_ ∧ some k_ ≠ (u4 : Value).ownBlock) (Kd.R_apart' (HO_6.out) (Kd.S_typed HO_4.out) (by decide)) (fun k_ hk => ⟨trivial, hk.2⟩))) (fun _ h_ => Or.inl h_)) (Kd.R_mono (Kd.R_tight rfl (Kd.R_mono (ok' := fun k_ => ((fun _ => True)) k_ ∧ some k_ ≠ (u4 : Value).ownBlock) (Kd.R_apart' (HO163.out) (Kd.S_typed HO_4.out) (by decide)) (fun k_ hk => ⟨trivial, hk.2⟩))) (fun _ h_ => Or.inr (h_)))); (case aF => exact (fun _ _ => trivial)); (case aO => exact (by (with_reducible repeat (first | apply Kd.S_alloc | apply Kd.S_drewN | apply Kd.S_drew)); exact Kd.S_mono HO_4.out (fun k_ hk => ⟨trivial, fun e_ => e_.elim (fun h_ => hk.1 h_) (fun h_ => hk.2 h_)⟩))); (case aS => exact (keep_size (w := w) (g := g) (row := none) (by repeat (first | (with_reducible first | exact HK.out | apply KeepBut.set_ | apply keep_drewN | apply keep_drew | apply keep_alloc) | exact HK.out)))); (case aL => have := LMc44.out; omega); intro v166 w49 ho hb hg hat; rw [← Ny165.out] at ho; have n0_ := Aside0.mk (IsS90.grown (by repeat (first | (with_reducible first | exact HI0.out | apply IsS90.alloc | apply IsS90.drewN | apply IsS90.drew | apply IsS90.set_1) | exact HI0.out)) hg (IsS90.own_neS HI0.out HO_4.out (by decide))); have n1_ := Aside0.mk (below_weaken (by repeat (first | (with_reducible first | exact HB.out | apply below_alloc | apply pw_below_drewN | apply below_drew1 | refine below_set ?_ (IsS90.ge HI0.out)) | exact HB.out)) HL.out hb); have n2_ := Aside0.mk (KeepBut.trans (by repeat (first | (with_reducible first | exact HK.out | apply KeepBut.set_ | apply keep_drewN | apply keep_drew | apply keep_alloc) | exact HK.out)) (KeepBut.of_grown hg g) (Kd.S_base2 HO_4.out)); have n3_ := Aside0.mk (ho); clear HI0; clear HB; clear HK; clear HO_4; clear HO163; clear HO_6; have HI0 := n0_; have HB := n1_; have HK := n2_; have HO167 := n3_; clear n0_ n1_ n2_ n3_; clear ho hb hg hat))
           go_roundg kj10
           case measure => have := HK1.out; have := HK2.out; have := HJ10.out; omega
           case rel => exact ⟨(y165), (wrap64 (x5_1 + 1)), (t164), (by first | rfl | (simp; done) | (simp [*]; done)), H', ⟨by have := HK1.out; have := HK2.out; have := HJ10.out; omega⟩, ⟨by (with_reducible repeat (first | apply Kd.S_alloc | apply Kd.S_drewN | apply Kd.S_drew)); exact HO167.out⟩, ⟨by repeat (first | (with_reducible first | exact HI0.out | apply IsS90.alloc | apply IsS90.drewN | apply IsS90.drew | apply IsS90.set_1) | exact HI0.out)⟩, ⟨by repeat (first | (with_reducible first | exact HK.out | apply KeepBut.set_ | apply keep_drewN | apply keep_drew | apply keep_alloc) | exact HK.out)⟩, ⟨by repeat (first | (with_reducible first | exact HB.out | apply below_alloc | apply pw_below_drewN | apply below_drew1 | refine below_set ?_ (IsS90.ge HI0.out)) | exact HB.out)⟩⟩
          ·rw [if_neg c44] at H
           exact absurd H (by simp)
         ·replace c42 := Bool.eq_false_iff.mpr c42
          subst c42
          have H1 : (spec_l9Draw.l3 kj10 t134 x4_1 x5_1 x6_2 0 s0_0 t160) = some (r1, r2) := by rw [if_neg (show ¬ (false = true) by decide)] at H; exact H
          clear H
          have H := H1
          clear H1
          have H' := Aside0.mk H
          clear H
          go_wp2_with (first | ((with_reducible refine gate_callee (f := 47) rfl ?_); refine goesL_ (some 76) rfl rfl Try.func47 (by kernel_rfl) rfl #[.pointer (some ⟨g, 0, none⟩), .int .i64 4] rfl (by (try simp only [List.map_toArray, List.map_cons, List.map_nil]); first | done | rfl | (simp only [List.length_drop, List.length_take]; rfl)) ?_; (with_reducible refine (spec_l1Rd_once.calls g s0_0 x1001_2 4 false t160 w0 _ ?side1 ?side2 A41.out).mono ?_); (case side1 => repeat (first | (with_reducible first | exact HI0.out | apply IsS90.alloc | apply IsS90.drewN | apply IsS90.drew | apply IsS90.set_1) | exact HI0.out)); (case side2 => repeat (first | (with_reducible first | exact HB.out | apply below_alloc | apply pw_below_drewN | apply below_drew1 | refine below_set ?_ (IsS90.ge HI0.out)) | exact HB.out)); rintro e w50 ⟨rfl, hi, hb, hk⟩; refine ⟨_, rfl, ?_⟩; have n0_ := Aside0.mk (Kd.S_mono (Kd.S_keep (IsS90.apartS (show IsS90 w0 _ g s0_0 x1001_2 from by repeat (first | (with_reducible first | exact HI0.out | apply IsS90.alloc | apply IsS90.drewN | apply IsS90.drew | apply IsS90.set_1) | exact HI0.out)) (by (with_reducible repeat (first | apply Kd.S_alloc | apply Kd.S_drewN | apply Kd.S_drew)); exact HO_4.out) (by decide)) hk (fun _ h => h.2)) (fun _ h => h.1)); have n1_ := Aside0.mk (Kd.R_mono (Kd.R_keep (IsS90.apart (show IsS90 w0 _ g s0_0 x1001_2 from by repeat (first | (with_reducible first | exact HI0.out | apply IsS90.alloc | apply IsS90.drewN | apply IsS90.drew | apply IsS90.set_1) | exact HI0.out)) (by (with_reducible repeat (first | apply Kd.R_alloc | apply Kd.R_drewN | apply Kd.R_drew)); exact HO_6.out) (by decide)) hk (fun _ h => h.2)) (fun _ h => h.1)); have n2_ := Aside0.mk (KeepBut.trans (by repeat (first | (with_reducible first | exact HK.out | apply KeepBut.set_ | apply keep_drewN | apply keep_drew | apply keep_alloc) | exact HK.out)) hk (.inl rfl)); have n3_ := Aside0.mk (hb); have n4_ := Aside0.mk (hi); clear HO_4; clear HO_6; clear HK; clear HB; clear HI0; have HO_4 := n0_; have HO_6 := n1_; have HK := n2_; have HB := n3_; have HI0 := n4_; clear n0_ n1_ n2_ n3_ n4_; (try clear hb); (try clear hb2); (try clear hk); (try clear hi)))
          go_loopg [12] kj10 (fun kq v12 w' => ∃ (x6_4 : List Int) (x12_4 : Int), v12 = .int .i64 x12_4 ∧ Aside0 (spec_l9Draw.l3 kq t134 x4_1 x5_1 x6_4 x12_4 s0_0 t160 = some (r1, r2)) ∧ Aside0 (kq ≤ kj10) ∧ Aside0 (Kd.S k41 41 w' w.heap.size (fun k_ => some k_ ≠ (u6 : Value).ownBlock) u4 x4_1) ∧ Aside0 (Kd.R (Kd.int .i64) 2 w' w.heap.size (fun _ => True) u6 x6_4) ∧ Aside0 (IsS90 w0 w' g s0_0 t160) ∧ Aside0 (KeepBut w w' g none) ∧ Aside0 (Below w0.heap.size w0 w'))
          case atStart => exact ⟨(x6_2), (0), (by first | rfl | (simp; done) | (simp [*]; done)), H', ⟨Nat.le_refl _⟩, ⟨by (with_reducible repeat (first | apply Kd.S_alloc | apply Kd.S_drewN | apply Kd.S_drew)); exact HO_4.out⟩, ⟨by (with_reducible repeat (first | apply Kd.R_alloc | apply Kd.R_drewN | apply Kd.R_drew)); exact HO_6.out⟩, ⟨by repeat (first | (with_reducible first | exact HI0.out | apply IsS90.alloc | apply IsS90.drewN | apply IsS90.drew | apply IsS90.set_1) | exact HI0.out)⟩, ⟨by repeat (first | (with_reducible first | exact HK.out | apply KeepBut.set_ | apply keep_drewN | apply keep_drew | apply keep_alloc) | exact HK.out)⟩, ⟨by repeat (first | (with_reducible first | exact HB.out | apply below_alloc | apply pw_below_drewN | apply below_drew1 | refine below_set ?_ (IsS90.ge HI0.out)) | exact HB.out)⟩⟩
          case round =>
           clear H'
           try clear c1
           try clear p1
           try clear q1
           try clear hx1
           try clear c2
           try clear p2
           try clear c3
           try clear c4
           try clear c6
           try clear c6b0
           try clear p6
           try clear c12
           try clear c12b0
           try clear c13
           try clear p15
           try clear q15
           try clear hx15
           try clear c19
           try clear c21
           try clear c21b0
           try clear c24
           try clear c24b0
           try clear c25
           try clear c27
           try clear c27b0
           try clear c29
           try clear c31
           try clear c32
           try clear c38
           try clear c42
           try clear c44
           try clear c46
           try clear c47
           try clear c48
           try clear hx150_0
           try clear p150
           try clear p2
           try clear p6
           try clear q150
           obtain ⟨x6_4, x12_4, rfl, HA, HK4, HO_4, HO_6, HI0, HK, HB⟩ := hrel
           cases gk with
           | zero => exact absurd HA.out (by simp [spec_l9Draw.l3])
           | succ k4 =>
            have H := HA.out
            clear HA
            simp only [spec_l9Draw.l3] at H
            by_cases c51 : x12_4 < (x6_4.length : Int)
            ·rw [if_pos c51] at H
             have c51b0 : decide (x12_4 < (x6_4.length : Int)) = true := decide_eq_true c51
             clear c51
             have H' := Aside0.mk H
             clear H
             obtain ⟨Ao52, co52, eo52⟩ := Kd.R_slice HO_6.out
             subst eo52
             go_wp2
             go_loopg [13] k4 (fun kq v13 w' => ∃ (x6_5 : List Int) (x13_5 : Int), v13 = .int .i64 x13_5 ∧ Aside0 (spec_l9Draw.l4 kq t134 x4_1 x5_1 x6_5 x12_4 x13_5 s0_0 t160 = some (r1, r2)) ∧ Aside0 (kq ≤ k4) ∧ Aside0 (Kd.S k41 41 w' w.heap.size (fun k_ => some k_ ≠ ((.slice Ao52 x6_4.length co52) : Value).ownBlock) u4 x4_1) ∧ Aside0 (Kd.R (Kd.int .i64) 2 w' w.heap.size (fun _ => True) (.slice Ao52 x6_4.length co52) x6_5) ∧ Aside0 (IsS90 w0 w' g s0_0 t160) ∧ Aside0 (KeepBut w w' g none) ∧ Aside0 (Below w0.heap.size w0 w'))
             case atStart => exact ⟨(x6_4), (wrap64 (x12_4 + 1)), (by first | rfl | (simp; done) | (simp [*]; done)), H', ⟨Nat.le_refl _⟩, ⟨by (with_reducible repeat (first | apply Kd.S_alloc | apply Kd.S_drewN | apply Kd.S_drew)); exact HO_4.out⟩, ⟨by (with_reducible repeat (first | apply Kd.R_alloc | apply Kd.R_drewN | apply Kd.R_drew)); exact HO_6.out⟩, ⟨by repeat (first | (with_reducible first | exact HI0.out | apply IsS90.alloc | apply IsS90.drewN | apply IsS90.drew | apply IsS90.set_1) | exact HI0.out)⟩, ⟨by repeat (first | (with_reducible first | exact HK.out | apply KeepBut.set_ | apply keep_drewN | apply keep_drew | apply keep_alloc) | exact HK.out)⟩, ⟨by repeat (first | (with_reducible first | exact HB.out | apply below_alloc | apply pw_below_drewN | apply below_drew1 | refine below_set ?_ (IsS90.ge HI0.out)) | exact HB.out)⟩⟩
             case round =>
              clear H'
              try clear c1
              try clear p1
              try clear q1
              try clear hx1
              try clear c2
              try clear p2
              try clear c3
              try clear c4
              try clear c5
              try clear c6
              try clear c6b0
              try clear p6
              try clear c12
              try clear c12b0
              try clear c13
              try clear p15
              try clear q15
              try clear hx15
              try clear c19
              try clear c21
              try clear c21b0
              try clear c24
              try clear c24b0
              try clear c25
              try clear c27
              try clear c27b0
              try clear c29
              try clear c31
              try clear c32
              try clear c38
              try clear c42
              try clear c44
              try clear c46
              try clear c47
              try clear c48
              try clear c51
              try clear c51b0
              try clear hx150_0
              try clear p1
              try clear p15
              try clear p150
              try clear p2
              try clear p6
              try clear q1
              try clear q15
              try clear q150
              obtain ⟨x6_5, x13_5, rfl, HA, HK5, HO_4, HO_6, HI0, HK, HB⟩ := hrel
              have hl6_5 := (Kd.R_reads' HO_6.out).1
              rw [hl6_5] at HO_6
              (try simp only [hl6_5])
              (try simp only [hl6_5] at HO_4)
              cases gk with
              | zero => exact absurd HA.out (by simp [spec_l9Draw.l4])
              | succ k5 =>
               have H := HA.out
               clear HA
               simp only [spec_l9Draw.l4] at H
               by_cases c53 : x13_5 < (x6_5.length : Int)
               ·rw [if_pos c53] at H
                have c53b0 : decide (x13_5 < (x6_5.length : Int)) = true := decide_eq_true c53
                (try simp only [hl6_5] at c53b0)
                clear c53
                by_cases c54 : 0 ≤ x13_5
                ·rw [if_pos c54] at H
                 have c54b0 : decide (0 ≤ x13_5) = true := decide_eq_true c54
                 clear c54
                 by_cases c55 : 0 ≤ x12_4
                 ·rw [if_pos c55] at H
                  have c55b0 : decide (0 ≤ x12_4) = true := decide_eq_true c55
                  clear c55
                  by_cases c56 : x12_4 < (x6_5.length : Int)
                  ·rw [if_pos c56] at H
                   have c56b0 : decide (x12_4 < (x6_5.length : Int)) = true := decide_eq_true c56
                   (try simp only [hl6_5] at c56b0)
                   clear c56
                   by_cases c57 : (rd x6_5 x13_5) > (rd x6_5 x12_4)
                   ·rw [if_pos c57] at H
                    have c57b0 : decide ((rd x6_5 x12_4) < (rd x6_5 x13_5)) = true := decide_eq_true c57
                    clear c57
                    obtain ⟨y179, hy179⟩ : ∃ y_ : List Int, y_ = (x6_5.set (x12_4 : Int).toNat (rd x6_5 x13_5)) := ⟨_, rfl⟩
                    replace H : (spec_l9Draw.l4 k5 t134 x4_1 x5_1 (y179.set (x13_5 : Int).toNat (rd x6_5 x12_4)) x12_4 (wrap64 (x13_5 + 1)) s0_0 t160) = some (r1, r2) := by first | (rw [hy179]; with_reducible exact H) | (have H2_ := (Option.bind_some _ _).symm.trans H; rw [hy179]; with_reducible exact H2_) | (have H2_ := (Option.bind_some _ _).symm.trans H; with_reducible exact H2_) | with_reducible exact H | (rw [hy179]; exact H) | exact H
                    have Ny179 := Aside0.mk hy179
                    clear hy179
                    obtain ⟨y180, hy180⟩ : ∃ y_ : List Int, y_ = (y179.set (x13_5 : Int).toNat (rd x6_5 x12_4)) := ⟨_, rfl⟩
                    replace H : (spec_l9Draw.l4 k5 t134 x4_1 x5_1 y180 x12_4 (wrap64 (x13_5 + 1)) s0_0 t160) = some (r1, r2) := by first | (rw [hy180]; with_reducible exact H) | (have H2_ := (Option.bind_some _ _).symm.trans H; rw [hy180]; with_reducible exact H2_) | (have H2_ := (Option.bind_some _ _).symm.trans H; with_reducible exact H2_) | with_reducible exact H | (rw [hy180]; exact H) | exact H
                    have Ny180 := Aside0.mk hy180
                    clear hy180
                    have H' := Aside0.mk H
                    clear H
                    try go_wp2
                    have n0_ := Aside0.mk (Kd.S_drew HO_4.out)
                    have n1_ := Aside0.mk (Kd.R_drew HO_6.out)
                    have n2_ := Aside0.mk (IsS90.drew HI0.out)
                    have n3_ := Aside0.mk (keep_drew HK.out)
                    have n4_ := Aside0.mk (below_drew1 HB.out)
                    clear HO_4
                    clear HO_6
                    clear HI0
                    clear HK
                    clear HB
                    have HO_4 := n0_
                    have HO_6 := n1_
                    have HI0 := n2_
                    have HK := n3_
                    have HB := n4_
                    clear n0_ n1_ n2_ n3_ n4_
                    have p175 : 0 ≤ (x13_5 : Int) := of_decide_eq_true (by first | (with_reducible assumption) | assumption)
                    have q175 : x13_5 < (x6_5.length : Int) := of_decide_eq_true (by first | (with_reducible assumption) | assumption)
                    obtain ⟨ad175, e175, hx175_0⟩ := Kd.at_int (Kd.R_reads' HO_6.out).2.2 x13_5 p175 q175
                    cases e175
                    replace p175 := eq_true p175
                    replace q175 := eq_true q175
                    have p176 : 0 ≤ (x12_4 : Int) := of_decide_eq_true (by first | (with_reducible assumption) | assumption)
                    have q176 : x12_4 < (x6_5.length : Int) := of_decide_eq_true (by first | (with_reducible assumption) | assumption)
                    obtain ⟨ad176, e176, hx176_0⟩ := Kd.at_int (Kd.R_reads' HO_6.out).2.2 x12_4 p176 q176
                    obtain rfl : ad175 = ad176 := (by injection e176)
                    replace p176 := eq_true p176
                    replace q176 := eq_true q176
                    refine start_ (n := 9) (S := fun w' => w'.cell? (ad175.add (x13_5).toNat) = some (.int .i64 (rd x6_5 x13_5)) ∧ w'.cell? (ad175.add (x12_4).toNat) = some (.int .i64 (rd x6_5 x12_4))) (ds := []) #[false, false, false, false, false, false, false, false, false] (by kernel_rfl) rfl rfl ⟨hx175_0, hx176_0⟩ (fun hHeld => ?_); refine with_tabW spec_l9Draw.tab30 spec_l9Draw.bits30 (fun HT_ HW_ => ?_)
                    generalize wr.drew = w60 at HO_4 HO_6 HI0 HK HB hx175_0 hx176_0 hHeld ⊢
                    refine pure_ (i := 0) (N := some 92) (v := ?_) (a' := ?_) #[true, false, false, false, false, false, false, false, false] rfl rfl (any_of HT_.out (by kernel_rfl)) (fun _ _ _ h => h) (Or.inl ⟨by rfl, ?_⟩) ?_ ?_
                    rotate_left
                    ·intro w'
                     go_simp
                     with_reducible rfl
                    rotate_left
                    ·simp only [Act.put, List.setIfInBounds_toArray, List.set_cons_zero, List.set_cons_succ, i64_w, i32_w]
                     rfl
                    refine pure_ (i := 1) (N := some 93) (v := ?_) (a' := ?_) #[true, true, false, false, false, false, false, false, false] rfl rfl (any_of HT_.out (by kernel_rfl)) (fun _ _ _ h => h) (Or.inl ⟨by rfl, ?_⟩) ?_ ?_
                    rotate_left
                    ·intro w'
                     go_simp
                     with_reducible rfl
                    rotate_left
                    ·simp only [Act.put, List.setIfInBounds_toArray, List.set_cons_zero, List.set_cons_succ, i64_w, i32_w]
                     rfl
                    refine pure_ (i := 2) (N := some 94) (v := ?_) (a' := ?_) #[true, true, true, false, false, false, false, false, false] rfl rfl (any_of HT_.out (by kernel_rfl)) (fun _ _ _ h => h) (Or.inl ⟨by rfl, ?_⟩) ?_ ?_
                    rotate_left
                    ·intro w'
                     go_simp
                     with_reducible rfl
                    rotate_left
                    ·simp only [Act.put, List.setIfInBounds_toArray, List.set_cons_zero, List.set_cons_succ, i64_w, i32_w]
                     rfl
                    refine pure_ (i := 4) (N := some 96) (v := ?_) (a' := ?_) #[true, true, true, false, true, false, false, false, false] rfl rfl (any_of HT_.out (by kernel_rfl)) (fun _ _ _ h => h) (Or.inl ⟨by rfl, ?_⟩) ?_ ?_
                    rotate_left
                    ·intro w'
                     go_simp
                     with_reducible rfl
                    rotate_left
                    ·simp only [Act.put, List.setIfInBounds_toArray, List.set_cons_zero, List.set_cons_succ, i64_w, i32_w]
                     rfl
                    refine pure_ (i := 5) (N := some 97) (v := ?_) (a' := ?_) #[true, true, true, false, true, true, false, false, false] rfl rfl (any_of HT_.out (by kernel_rfl)) (fun _ _ _ h => h) (Or.inl ⟨by rfl, ?_⟩) ?_ ?_
                    rotate_left
                    ·intro w'
                     go_simp
                     with_reducible rfl
                    rotate_left
                    ·simp only [Act.put, List.setIfInBounds_toArray, List.set_cons_zero, List.set_cons_succ, i64_w, i32_w]
                     rfl
                    refine pure_ (i := 6) (N := some 98) (v := ?_) (a' := ?_) #[true, true, true, false, true, true, true, false, false] rfl rfl (any_of HT_.out (by kernel_rfl)) (fun _ _ _ h => h) (Or.inl ⟨by rfl, ?_⟩) ?_ ?_
                    rotate_left
                    ·intro w'
                     go_simp
                     with_reducible rfl
                    rotate_left
                    ·simp only [Act.put, List.setIfInBounds_toArray, List.set_cons_zero, List.set_cons_succ, i64_w, i32_w]
                     rfl
                    refine take_ (i := 3) (N := some 95) (v := ?_) (a' := ?_) #[true, true, true, true, true, true, true, false, false] rfl rfl (take_ofW HT_.out HW_.out (by kernel_rfl)) (fun _ _ _ h => h) (Or.inl ⟨by rfl, ?_⟩) hHeld ?_ ?_
                    rotate_left
                    ·rintro w' ⟨s0, s1⟩
                     go_simp
                     with_reducible rfl
                    rotate_left
                    ·simp only [Act.put, List.setIfInBounds_toArray, List.set_cons_zero, List.set_cons_succ, i64_w, i32_w]
                     rfl
                    refine take_ (i := 7) (N := some 99) (v := ?_) (a' := ?_) #[true, true, true, true, true, true, true, true, false] rfl rfl (take_ofW HT_.out HW_.out (by kernel_rfl)) (fun _ _ _ h => h) (Or.inl ⟨by rfl, ?_⟩) hHeld ?_ ?_
                    rotate_left
                    ·rintro w' ⟨s0, s1⟩
                     go_simp
                     with_reducible rfl
                    rotate_left
                    ·simp only [Act.put, List.setIfInBounds_toArray, List.set_cons_zero, List.set_cons_succ, i64_w, i32_w]
                     rfl
                    refine pure_ (i := 8) (N := some 100) (v := ?_) (a' := ?_) #[true, true, true, true, true, true, true, true, true] rfl rfl (any_of HT_.out (by kernel_rfl)) (fun _ _ _ h => h) (Or.inl ⟨by rfl, ?_⟩) ?_ ?_
                    rotate_left
                    ·intro w'
                     go_simp
                     with_reducible rfl
                    rotate_left
                    ·simp only [Act.put, List.setIfInBounds_toArray, List.set_cons_zero, List.set_cons_succ, i64_w, i32_w]
                     rfl
                    refine done_ (done_of HT_.out (by kernel_rfl)) ?_
                    have p177 : 0 ≤ (x12_4 : Int) := of_decide_eq_true (by first | (with_reducible assumption) | assumption)
                    have q177 : x12_4 < (x6_5.length : Int) := of_decide_eq_true (by first | (with_reducible assumption) | assumption)
                    obtain ⟨ad177, e177, hx177_0⟩ := Kd.at_int (Kd.R_reads' HO_6.out).2.2 x12_4 p177 q177
                    obtain rfl : ad175 = ad177 := (by injection e177)
                    replace p177 := eq_true p177
                    replace q177 := eq_true q177
                    have p178 : 0 ≤ (x13_5 : Int) := of_decide_eq_true (by first | (with_reducible assumption) | assumption)
                    have q178 : x13_5 < (x6_5.length : Int) := of_decide_eq_true (by first | (with_reducible assumption) | assumption)
                    obtain ⟨ad178, e178, hx178_0⟩ := Kd.at_int (Kd.R_reads' HO_6.out).2.2 x13_5 p178 q178
                    obtain rfl : ad175 = ad178 := (by injection e178)
                    replace p178 := eq_true p178
                    replace q178 := eq_true q178
                    have p58 : 0 ≤ (x12_4 : Int) := of_decide_eq_true (by first | (with_reducible assumption) | assumption)
                    have q58 : (x12_4 : Int) < ((x6_5.length : Int) : Int) := of_decide_eq_true (by first | (with_reducible assumption) | assumption)
                    obtain ⟨go58, co58, eo58, gb58, gl58, cl58, HG58⟩ := Kd.R_form HO_6.out (by omega)
                    (first | cases eo58 | (injection eo58 with ea_ en_ ec_; (first | subst ea_ | (injection ea_ with ea_; subst ea_)); subst ec_; clear en_))
                    have GB58 := Aside0.mk gb58
                    have GG58 := Aside0.mk HG58
                    clear gb58 gl58 HG58
                    (first | simp only [add_plain] at hx175_0 | skip)
                    (first | simp only [add_plain] at hx176_0 | skip)
                    (first | simp only [add_plain] at hx177_0 | skip)
                    (first | simp only [add_plain] at hx178_0 | skip)
                    obtain ⟨hx58_0, hf58_0⟩ := Kd.R_celln 0 HO_6.out (x12_4 : Int) p58 q58
                    replace p58 := eq_true p58
                    replace q58 := eq_true q58
                    obtain ⟨hy61_, hz61_⟩ := Kd.R_celln 0 HO_6.out (x12_4 : Int) (of_decide_eq_true (by first | (with_reducible assumption) | assumption)) (of_decide_eq_true (by first | (with_reducible assumption) | assumption))
                    have HP61 := Kd.R_putg HO_6.out (x12_4 : Int) (rd x6_5 x13_5)
                    try go_wp2_with (first | ((with_reducible refine gate_store (t := 2) (p := 111) rfl ?_); refine store_event (t := 2) (p := 111) (v := ?vo_w62) (w1 := (w60.setCell ⟨go58, (x12_4 : Int).toNat, none⟩ (.int .i64 (rd x6_5 x13_5)))) ?hg ?ho ?hn ?hr ?_; (case ho => rfl); (case hg => rfl); (case hn => rfl); (case hr => first | (go_simp; done) | (go_simp; rfl)); intro w62 hw; have hg : w60.grownBy w62 (some go58) := (by rw [hw]; exact HP61.2); have hp_ : Kd.R (Kd.int .i64) 2 w62 w.heap.size (fun _ => True) (.slice (some ⟨go58, 0, none⟩) x6_5.length co52) y179 := (by rw [hw, Ny179.out]; exact HP61.1); clear HP61; have n0_ := Aside0.mk (Kd.S_after (v := (.slice (some ⟨go58, 0, none⟩) x6_5.length co52)) (v1 := (.slice (some ⟨go58, 0, none⟩) x6_5.length co52)) (ok := (fun _ => True)) (by (with_reducible repeat (first | apply Kd.S_alloc | apply Kd.S_drewN | apply Kd.S_drew)); exact Kd.S_mono HO_4.out (fun _ hk => ⟨trivial, hk⟩)) hg (.inl rfl)); have n1_ := Aside0.mk (hp_); have n2_ := Aside0.mk (IsS90.grown (by repeat (first | (with_reducible first | exact HI0.out | apply IsS90.alloc | apply IsS90.drewN | apply IsS90.drew | apply IsS90.set_1) | exact HI0.out)) hg (IsS90.own_ne HI0.out HO_6.out (by decide))); have n3_ := Aside0.mk ((by rw [hw]; exact below_set (HB.out) (Nat.le_trans HL.out GB58.out) : Below w0.heap.size w0 w62)); have n4_ := Aside0.mk (KeepBut.trans (by repeat (first | (with_reducible first | exact HK.out | apply KeepBut.set_ | apply keep_drewN | apply keep_drew | apply keep_alloc) | exact HK.out)) (KeepBut.of_grown hg g) (Kd.R_base2 HO_6.out)); clear HO_4; clear HO_6; clear HI0; clear HB; clear HK; have HO_4 := n0_; have HO_6 := n1_; have HI0 := n2_; have HB := n3_; have HK := n4_; clear n0_ n1_ n2_ n3_ n4_; clear hg hw hp_; have p59 : 0 ≤ (x13_5 : Int) := of_decide_eq_true (by first | (with_reducible assumption) | assumption); have q59 : (x13_5 : Int) < ((x6_5.length : Int) : Int) := of_decide_eq_true (by first | (with_reducible assumption) | assumption); obtain ⟨hx59_0, hf59_0⟩ := Kd.R_celln 0 HO_6.out (x13_5 : Int) p59 q59; replace p59 := eq_true p59; replace q59 := eq_true q59; obtain ⟨hy63_, hz63_⟩ := Kd.R_celln 0 HO_6.out (x13_5 : Int) (of_decide_eq_true (by first | (with_reducible assumption) | assumption)) (of_decide_eq_true (by first | (with_reducible assumption) | assumption)); have HP63 := Kd.R_putg HO_6.out (x13_5 : Int) (rd x6_5 x12_4)) | ((with_reducible refine gate_store (t := 2) (p := 115) rfl ?_); refine store_event (t := 2) (p := 115) (v := ?vo_w64) (w1 := (w62.setCell ⟨go58, (x13_5 : Int).toNat, none⟩ (.int .i64 (rd x6_5 x12_4)))) ?hg ?ho ?hn ?hr ?_; (case ho => rfl); (case hg => rfl); (case hn => rfl); (case hr => first | (go_simp; done) | (go_simp; rfl)); intro w64 hw; have hg : w62.grownBy w64 (some go58) := (by rw [hw]; exact HP63.2); have hp_ : Kd.R (Kd.int .i64) 2 w64 w.heap.size (fun _ => True) (.slice (some ⟨go58, 0, none⟩) x6_5.length co52) y180 := (by rw [hw, Ny180.out]; exact HP63.1); clear HP63; have n0_ := Aside0.mk (Kd.S_after (v := (.slice (some ⟨go58, 0, none⟩) x6_5.length co52)) (v1 := (.slice (some ⟨go58, 0, none⟩) x6_5.length co52)) (ok := (fun _ => True)) (by (with_reducible repeat (first | apply Kd.S_alloc | apply Kd.S_drewN | apply Kd.S_drew)); exact HO_4.out) hg (.inl rfl)); have n1_ := Aside0.mk (hp_); have n2_ := Aside0.mk (IsS90.grown (by repeat (first | (with_reducible first | exact HI0.out | apply IsS90.alloc | apply IsS90.drewN | apply IsS90.drew | apply IsS90.set_1) | exact HI0.out)) hg (IsS90.own_ne HI0.out HO_6.out (by decide))); have n3_ := Aside0.mk ((by rw [hw]; exact below_set (HB.out) (Nat.le_trans HL.out GB58.out) : Below w0.heap.size w0 w64)); have n4_ := Aside0.mk (KeepBut.trans (by repeat (first | (with_reducible first | exact HK.out | apply KeepBut.set_ | apply keep_drewN | apply keep_drew | apply keep_alloc) | exact HK.out)) (KeepBut.of_grown hg g) (Kd.R_base2 HO_6.out)); clear HO_4; clear HO_6; clear HI0; clear HB; clear HK; have HO_4 := n0_; have HO_6 := n1_; have HI0 := n2_; have HB := n3_; have HK := n4_; clear n0_ n1_ n2_ n3_ n4_; clear hg hw hp_))
                    (try simp only [← hl6_5])
                    go_roundg k5
                    case measure => have := HK1.out; have := HK2.out; have := HJ10.out; have := HK4.out; have := HK5.out; omega
                    case rel => exact ⟨(y180), (wrap64 (x13_5 + 1)), (by first | rfl | (simp; done) | (simp [*]; done)), H', ⟨by have := HK1.out; have := HK2.out; have := HJ10.out; have := HK4.out; have := HK5.out; omega⟩, ⟨by (try simp only [hl6_5]); (with_reducible repeat (first | apply Kd.S_alloc | apply Kd.S_drewN | apply Kd.S_drew)); exact Kd.S_mono HO_4.out (fun _ hk => hk.2)⟩, ⟨by (try simp only [hl6_5]); (with_reducible repeat (first | apply Kd.R_alloc | apply Kd.R_drewN | apply Kd.R_drew)); exact HO_6.out⟩, ⟨by repeat (first | (with_reducible first | exact HI0.out | apply IsS90.alloc | apply IsS90.drewN | apply IsS90.drew | apply IsS90.set_1) | exact HI0.out)⟩, ⟨by repeat (first | (with_reducible first | exact HK.out | apply KeepBut.set_ | apply keep_drewN | apply keep_drew | apply keep_alloc) | exact HK.out)⟩, ⟨by repeat (first | (with_reducible first | exact HB.out | apply below_alloc | apply pw_below_drewN | apply below_drew1 | refine below_set ?_ (IsS90.ge HI0.out)) | exact HB.out)⟩⟩
                   ·rw [if_neg c57] at H
                    have c57b0 : decide ((rd x6_5 x12_4) < (rd x6_5 x13_5)) = false := decide_eq_false c57
                    clear c57
                    have H' := Aside0.mk H
                    clear H
                    try go_wp2
                    have n0_ := Aside0.mk (Kd.S_drew HO_4.out)
                    have n1_ := Aside0.mk (Kd.R_drew HO_6.out)
                    have n2_ := Aside0.mk (IsS90.drew HI0.out)
                    have n3_ := Aside0.mk (keep_drew HK.out)
                    have n4_ := Aside0.mk (below_drew1 HB.out)
                    clear HO_4
                    clear HO_6
                    clear HI0
                    clear HK
                    clear HB
                    have HO_4 := n0_
                    have HO_6 := n1_
                    have HI0 := n2_
                    have HK := n3_
                    have HB := n4_
                    clear n0_ n1_ n2_ n3_ n4_
                    have p175 : 0 ≤ (x13_5 : Int) := of_decide_eq_true (by first | (with_reducible assumption) | assumption)
                    have q175 : x13_5 < (x6_5.length : Int) := of_decide_eq_true (by first | (with_reducible assumption) | assumption)
                    obtain ⟨ad175, e175, hx175_0⟩ := Kd.at_int (Kd.R_reads' HO_6.out).2.2 x13_5 p175 q175
                    cases e175
                    replace p175 := eq_true p175
                    replace q175 := eq_true q175
                    have p176 : 0 ≤ (x12_4 : Int) := of_decide_eq_true (by first | (with_reducible assumption) | assumption)
                    have q176 : x12_4 < (x6_5.length : Int) := of_decide_eq_true (by first | (with_reducible assumption) | assumption)
                    obtain ⟨ad176, e176, hx176_0⟩ := Kd.at_int (Kd.R_reads' HO_6.out).2.2 x12_4 p176 q176
                    obtain rfl : ad175 = ad176 := (by injection e176)
                    replace p176 := eq_true p176
                    replace q176 := eq_true q176
                    refine start_ (n := 9) (S := fun w' => w'.cell? (ad175.add (x13_5).toNat) = some (.int .i64 (rd x6_5 x13_5)) ∧ w'.cell? (ad175.add (x12_4).toNat) = some (.int .i64 (rd x6_5 x12_4))) (ds := []) #[false, false, false, false, false, false, false, false, false] (by kernel_rfl) rfl rfl ⟨hx175_0, hx176_0⟩ (fun hHeld => ?_); refine with_tabW spec_l9Draw.tab30 spec_l9Draw.bits30 (fun HT_ HW_ => ?_)
                    generalize wr.drew = w65 at HO_4 HO_6 HI0 HK HB hx175_0 hx176_0 hHeld ⊢
                    refine pure_ (i := 0) (N := some 92) (v := ?_) (a' := ?_) #[true, false, false, false, false, false, false, false, false] rfl rfl (any_of HT_.out (by kernel_rfl)) (fun _ _ _ h => h) (Or.inl ⟨by rfl, ?_⟩) ?_ ?_
                    rotate_left
                    ·intro w'
                     go_simp
                     with_reducible rfl
                    rotate_left
                    ·simp only [Act.put, List.setIfInBounds_toArray, List.set_cons_zero, List.set_cons_succ, i64_w, i32_w]
                     rfl
                    refine pure_ (i := 1) (N := some 93) (v := ?_) (a' := ?_) #[true, true, false, false, false, false, false, false, false] rfl rfl (any_of HT_.out (by kernel_rfl)) (fun _ _ _ h => h) (Or.inl ⟨by rfl, ?_⟩) ?_ ?_
                    rotate_left
                    ·intro w'
                     go_simp
                     with_reducible rfl
                    rotate_left
                    ·simp only [Act.put, List.setIfInBounds_toArray, List.set_cons_zero, List.set_cons_succ, i64_w, i32_w]
                     rfl
                    refine pure_ (i := 2) (N := some 94) (v := ?_) (a' := ?_) #[true, true, true, false, false, false, false, false, false] rfl rfl (any_of HT_.out (by kernel_rfl)) (fun _ _ _ h => h) (Or.inl ⟨by rfl, ?_⟩) ?_ ?_
                    rotate_left
                    ·intro w'
                     go_simp
                     with_reducible rfl
                    rotate_left
                    ·simp only [Act.put, List.setIfInBounds_toArray, List.set_cons_zero, List.set_cons_succ, i64_w, i32_w]
                     rfl
                    refine pure_ (i := 4) (N := some 96) (v := ?_) (a' := ?_) #[true, true, true, false, true, false, false, false, false] rfl rfl (any_of HT_.out (by kernel_rfl)) (fun _ _ _ h => h) (Or.inl ⟨by rfl, ?_⟩) ?_ ?_
                    rotate_left
                    ·intro w'
                     go_simp
                     with_reducible rfl
                    rotate_left
                    ·simp only [Act.put, List.setIfInBounds_toArray, List.set_cons_zero, List.set_cons_succ, i64_w, i32_w]
                     rfl
                    refine pure_ (i := 5) (N := some 97) (v := ?_) (a' := ?_) #[true, true, true, false, true, true, false, false, false] rfl rfl (any_of HT_.out (by kernel_rfl)) (fun _ _ _ h => h) (Or.inl ⟨by rfl, ?_⟩) ?_ ?_
                    rotate_left
                    ·intro w'
                     go_simp
                     with_reducible rfl
                    rotate_left
                    ·simp only [Act.put, List.setIfInBounds_toArray, List.set_cons_zero, List.set_cons_succ, i64_w, i32_w]
                     rfl
                    refine pure_ (i := 6) (N := some 98) (v := ?_) (a' := ?_) #[true, true, true, false, true, true, true, false, false] rfl rfl (any_of HT_.out (by kernel_rfl)) (fun _ _ _ h => h) (Or.inl ⟨by rfl, ?_⟩) ?_ ?_
                    rotate_left
                    ·intro w'
                     go_simp
                     with_reducible rfl
                    rotate_left
                    ·simp only [Act.put, List.setIfInBounds_toArray, List.set_cons_zero, List.set_cons_succ, i64_w, i32_w]
                     rfl
                    refine take_ (i := 3) (N := some 95) (v := ?_) (a' := ?_) #[true, true, true, true, true, true, true, false, false] rfl rfl (take_ofW HT_.out HW_.out (by kernel_rfl)) (fun _ _ _ h => h) (Or.inl ⟨by rfl, ?_⟩) hHeld ?_ ?_
                    rotate_left
                    ·rintro w' ⟨s0, s1⟩
                     go_simp
                     with_reducible rfl
                    rotate_left
                    ·simp only [Act.put, List.setIfInBounds_toArray, List.set_cons_zero, List.set_cons_succ, i64_w, i32_w]
                     rfl
                    refine take_ (i := 7) (N := some 99) (v := ?_) (a' := ?_) #[true, true, true, true, true, true, true, true, false] rfl rfl (take_ofW HT_.out HW_.out (by kernel_rfl)) (fun _ _ _ h => h) (Or.inl ⟨by rfl, ?_⟩) hHeld ?_ ?_
                    rotate_left
                    ·rintro w' ⟨s0, s1⟩
                     go_simp
                     with_reducible rfl
                    rotate_left
                    ·simp only [Act.put, List.setIfInBounds_toArray, List.set_cons_zero, List.set_cons_succ, i64_w, i32_w]
                     rfl
                    refine pure_ (i := 8) (N := some 100) (v := ?_) (a' := ?_) #[true, true, true, true, true, true, true, true, true] rfl rfl (any_of HT_.out (by kernel_rfl)) (fun _ _ _ h => h) (Or.inl ⟨by rfl, ?_⟩) ?_ ?_
                    rotate_left
                    ·intro w'
                     go_simp
                     with_reducible rfl
                    rotate_left
                    ·simp only [Act.put, List.setIfInBounds_toArray, List.set_cons_zero, List.set_cons_succ, i64_w, i32_w]
                     rfl
                    refine done_ (done_of HT_.out (by kernel_rfl)) ?_
                    try go_wp2
                    (try simp only [← hl6_5])
                    go_roundg k5
                    case measure => have := HK1.out; have := HK2.out; have := HJ10.out; have := HK4.out; have := HK5.out; omega
                    case rel => exact ⟨(x6_5), (wrap64 (x13_5 + 1)), (by first | rfl | (simp; done) | (simp [*]; done)), H', ⟨by have := HK1.out; have := HK2.out; have := HJ10.out; have := HK4.out; have := HK5.out; omega⟩, ⟨by (try simp only [hl6_5]); (with_reducible repeat (first | apply Kd.S_alloc | apply Kd.S_drewN | apply Kd.S_drew)); exact HO_4.out⟩, ⟨by (try simp only [hl6_5]); (with_reducible repeat (first | apply Kd.R_alloc | apply Kd.R_drewN | apply Kd.R_drew)); exact HO_6.out⟩, ⟨by repeat (first | (with_reducible first | exact HI0.out | apply IsS90.alloc | apply IsS90.drewN | apply IsS90.drew | apply IsS90.set_1) | exact HI0.out)⟩, ⟨by repeat (first | (with_reducible first | exact HK.out | apply KeepBut.set_ | apply keep_drewN | apply keep_drew | apply keep_alloc) | exact HK.out)⟩, ⟨by repeat (first | (with_reducible first | exact HB.out | apply below_alloc | apply pw_below_drewN | apply below_drew1 | refine below_set ?_ (IsS90.ge HI0.out)) | exact HB.out)⟩⟩
                  ·rw [if_neg c56] at H
                   exact absurd H (by simp)
                 ·rw [if_neg c55] at H
                  exact absurd H (by simp)
                ·rw [if_neg c54] at H
                 exact absurd H (by simp)
               ·rw [if_neg c53] at H
                have c53b0 : decide (x13_5 < (x6_5.length : Int)) = false := decide_eq_false c53
                (try simp only [hl6_5] at c53b0)
                clear c53
                have H' := Aside0.mk H
                clear H
                go_wp2
                (try simp only [← hl6_5])
                go_roundg k5
                case measure => have := HK1.out; have := HK2.out; have := HJ10.out; have := HK4.out; have := HK5.out; omega
                case rel => exact ⟨(x6_5), (wrap64 (x12_4 + 1)), (by first | rfl | (simp; done) | (simp [*]; done)), H', ⟨by have := HK1.out; have := HK2.out; have := HJ10.out; have := HK4.out; have := HK5.out; omega⟩, ⟨by (try simp only [hl6_5]); (with_reducible repeat (first | apply Kd.S_alloc | apply Kd.S_drewN | apply Kd.S_drew)); exact HO_4.out⟩, ⟨by (try simp only [hl6_5]); (with_reducible repeat (first | apply Kd.R_alloc | apply Kd.R_drewN | apply Kd.R_drew)); exact HO_6.out⟩, ⟨by repeat (first | (with_reducible first | exact HI0.out | apply IsS90.alloc | apply IsS90.drewN | apply IsS90.drew | apply IsS90.set_1) | exact HI0.out)⟩, ⟨by repeat (first | (with_reducible first | exact HK.out | apply KeepBut.set_ | apply keep_drewN | apply keep_drew | apply keep_alloc) | exact HK.out)⟩, ⟨by repeat (first | (with_reducible first | exact HB.out | apply below_alloc | apply pw_below_drewN | apply below_drew1 | refine below_set ?_ (IsS90.ge HI0.out)) | exact HB.out)⟩⟩
            ·rw [if_neg c51] at H
             have c51b0 : decide (x12_4 < (x6_4.length : Int)) = false := decide_eq_false c51
             (try simp only [hl6_5] at c51b0)
             clear c51
             replace H := Option.bind_eq_some_iff.mp H
             obtain ⟨⟨t168, t171⟩, A660, H⟩ := H
             replace H : (if x4_1.length < 2932031007402 then (spec_l9Draw.l0 k4 t134 (x4_1 ++ [(⟨x6_4, t168⟩ : S41)]) (wrap64 (x5_1 + 1)) s0_0 t171) else (none)) = some (r1, r2) := H
             have A66 := Aside0.mk A660
             clear A660
             by_cases c67 : x4_1.length < 2932031007402
             ·rw [if_pos c67] at H
              have LMc67 := Aside0.mk c67
              clear c67
              obtain ⟨y172, hy172⟩ : ∃ y_ : List (S41), y_ = (x4_1 ++ [(⟨x6_4, t168⟩ : S41)]) := ⟨_, rfl⟩
              replace H : (spec_l9Draw.l0 k4 t134 y172 (wrap64 (x5_1 + 1)) s0_0 t171) = some (r1, r2) := by first | (rw [hy172]; with_reducible exact H) | (have H2_ := (Option.bind_some _ _).symm.trans H; rw [hy172]; with_reducible exact H2_) | (have H2_ := (Option.bind_some _ _).symm.trans H; with_reducible exact H2_) | with_reducible exact H | (rw [hy172]; exact H) | exact H
              have Ny172 := Aside0.mk hy172
              clear hy172
              have H' := Aside0.mk H
              clear H
              obtain ⟨Ao68, co68, eo68⟩ := Kd.R_slice HO_6.out
              subst eo68
              go_wp2_with (first | ((with_reducible refine gate_callee (f := 48) rfl ?_); refine goesL_ (some 119) rfl rfl Try.func48 (by kernel_rfl) rfl #[.pointer (some ⟨g, 0, none⟩)] rfl (by (try simp only [List.map_toArray, List.map_cons, List.map_nil]); first | done | rfl | (simp only [List.length_drop, List.length_take]; rfl)) ?_; (with_reducible refine (spec_l9DrawAttrs.calls k4 g s0_0 t160 t168 t171 w0 _ ?side1 ?side2 A66.out).mono ?_); (case side1 => repeat (first | (with_reducible first | exact HI0.out | apply IsS90.alloc | apply IsS90.drewN | apply IsS90.drew | apply IsS90.set_1) | exact HI0.out)); (case side2 => repeat (first | (with_reducible first | exact HB.out | apply below_alloc | apply pw_below_drewN | apply below_drew1 | refine below_set ?_ (IsS90.ge HI0.out)) | exact HB.out)); rintro e w69 ⟨v169, rfl, ho0, hi, hb, hk⟩; refine ⟨_, rfl, ?_⟩; have n0_ := Aside0.mk (Kd.S_mono (Kd.S_told (Kd.S_oldK (IsS90.apartS (show IsS90 w0 _ g s0_0 t160 from by repeat (first | (with_reducible first | exact HI0.out | apply IsS90.alloc | apply IsS90.drewN | apply IsS90.drew | apply IsS90.set_1) | exact HI0.out)) (by (with_reducible repeat (first | apply Kd.S_alloc | apply Kd.S_drewN | apply Kd.S_drew)); exact HO_4.out) (by decide)) hk) (Kd.R_base ho0)) (fun _ h_ => h_.1)); have n1_ := Aside0.mk (Kd.R_mono (Kd.R_keep (IsS90.apart (show IsS90 w0 _ g s0_0 t160 from by repeat (first | (with_reducible first | exact HI0.out | apply IsS90.alloc | apply IsS90.drewN | apply IsS90.drew | apply IsS90.set_1) | exact HI0.out)) (by (with_reducible repeat (first | apply Kd.R_alloc | apply Kd.R_drewN | apply Kd.R_drew)); exact HO_6.out) (by decide)) hk (fun _ h => h.2)) (fun _ h => h.1)); have n2_ := Aside0.mk (Kd.R_lower ho0 (keep_size (w := w) (g := g) (row := none) (by repeat (first | (with_reducible first | exact HK.out | apply KeepBut.set_ | apply keep_drewN | apply keep_drew | apply keep_alloc) | exact HK.out)))); have n3_ := Aside0.mk (KeepBut.trans (by repeat (first | (with_reducible first | exact HK.out | apply KeepBut.set_ | apply keep_drewN | apply keep_drew | apply keep_alloc) | exact HK.out)) hk (.inl rfl)); have n4_ := Aside0.mk (hb); have n5_ := Aside0.mk (hi); clear HO_4; clear HO_6; clear HK; clear HB; clear HI0; have HO_4 := n0_; have HO_6 := n1_; have HO170 := n2_; have HK := n3_; have HB := n4_; have HI0 := n5_; clear n0_ n1_ n2_ n3_ n4_ n5_; (try clear hb); (try clear hb2); (try clear hk); (try clear hi); (try clear ho0); obtain ⟨Ao70, co70, eo70⟩ := Kd.R_slice HO170.out; subst eo70) | ((with_reducible refine gate_builtin (b := .append) (xs := #[.tmp 116, .tmp 121]) rfl ?_); (try (refine gate_guard (by rfl) ?_; dsimp only)); at_builtin; refine Kd.S_append k41 w.heap.size rfl (.tmp 116) (.tmp 121) 25 41 (.agg #[(.slice none 0 0), (.slice none 0 0)]) 48 rfl Try.underlying25 info41 rfl (by decide) (by omega) u4 x4_1 (⟨x6_4, t168⟩ : S41) [.slice Ao68 x6_4.length co68, .slice Ao70 t168.length co70] (fun _ => True) (fun k_ => some k_ = (.slice Ao68 x6_4.length co68 : Value).ownBlock ∨ some k_ = (.slice Ao70 t168.length co70 : Value).ownBlock) rfl rfl ?aP (fun k_ hk_ => hk_.elim (fun h_ => ((Kd.R_mono (ok' := fun k_ => ((fun _ => True)) k_ ∧ some k_ ≠ (u4 : Value).ownBlock) (Kd.R_apart' (HO_6.out) (Kd.S_typed HO_4.out) (by decide)) (fun k_ hk => ⟨trivial, hk.2⟩))).1 k_ h_.symm) (fun h_ => ((Kd.R_mono (ok' := fun k_ => ((fun _ => True)) k_ ∧ some k_ ≠ (u4 : Value).ownBlock) (Kd.R_apart' (HO170.out) (Kd.S_typed HO_4.out) (by decide)) (fun k_ hk => ⟨trivial, hk.2⟩))).1 k_ h_.symm)) ?aF ?aO (Below.refl _ _) ?aS ?aL ?_; (case aP => exact k41_mkM _ _ _ (⟨x6_4, t168⟩ : S41) (Kd.R_mono (Kd.R_tight rfl (Kd.R_mono (ok' := fun k_ => ((fun _ => True)) k_ ∧ some k_ ≠ (u4 : Value).ownBlock) (Kd.R_apart' (HO_6.out) (Kd.S_typed HO_4.out) (by decide)) (fun k_ hk => ⟨trivial, hk.2⟩))) (fun _ h_ => Or.inl h_)) (Kd.R_mono (Kd.R_tight rfl (Kd.R_mono (ok' := fun k_ => ((fun _ => True)) k_ ∧ some k_ ≠ (u4 : Value).ownBlock) (Kd.R_apart' (HO170.out) (Kd.S_typed HO_4.out) (by decide)) (fun k_ hk => ⟨trivial, hk.2⟩))) (fun _ h_ => Or.inr (h_)))); (case aF => exact (fun _ _ => trivial)); (case aO => exact (by (with_reducible repeat (first | apply Kd.S_alloc | apply Kd.S_drewN | apply Kd.S_drew)); exact Kd.S_mono HO_4.out (fun k_ hk => ⟨trivial, fun e_ => e_.elim (fun h_ => hk.1 h_) (fun h_ => hk.2 h_)⟩))); (case aS => exact (keep_size (w := w) (g := g) (row := none) (by repeat (first | (with_reducible first | exact HK.out | apply KeepBut.set_ | apply keep_drewN | apply keep_drew | apply keep_alloc) | exact HK.out)))); (case aL => have := LMc67.out; omega); intro v173 w71 ho hb hg hat; rw [← Ny172.out] at ho; have n0_ := Aside0.mk (IsS90.grown (by repeat (first | (with_reducible first | exact HI0.out | apply IsS90.alloc | apply IsS90.drewN | apply IsS90.drew | apply IsS90.set_1) | exact HI0.out)) hg (IsS90.own_neS HI0.out HO_4.out (by decide))); have n1_ := Aside0.mk (below_weaken (by repeat (first | (with_reducible first | exact HB.out | apply below_alloc | apply pw_below_drewN | apply below_drew1 | refine below_set ?_ (IsS90.ge HI0.out)) | exact HB.out)) HL.out hb); have n2_ := Aside0.mk (KeepBut.trans (by repeat (first | (with_reducible first | exact HK.out | apply KeepBut.set_ | apply keep_drewN | apply keep_drew | apply keep_alloc) | exact HK.out)) (KeepBut.of_grown hg g) (Kd.S_base2 HO_4.out)); have n3_ := Aside0.mk (ho); clear HI0; clear HB; clear HK; clear HO_4; clear HO170; clear HO_6; have HI0 := n0_; have HB := n1_; have HK := n2_; have HO174 := n3_; clear n0_ n1_ n2_ n3_; clear ho hb hg hat))
              go_roundg k4
              case measure => have := HK1.out; have := HK2.out; have := HJ10.out; have := HK4.out; omega
              case rel => exact ⟨(y172), (wrap64 (x5_1 + 1)), (t171), (by first | rfl | (simp; done) | (simp [*]; done)), H', ⟨by have := HK1.out; have := HK2.out; have := HJ10.out; have := HK4.out; omega⟩, ⟨by (with_reducible repeat (first | apply Kd.S_alloc | apply Kd.S_drewN | apply Kd.S_drew)); exact HO174.out⟩, ⟨by repeat (first | (with_reducible first | exact HI0.out | apply IsS90.alloc | apply IsS90.drewN | apply IsS90.drew | apply IsS90.set_1) | exact HI0.out)⟩, ⟨by repeat (first | (with_reducible first | exact HK.out | apply KeepBut.set_ | apply keep_drewN | apply keep_drew | apply keep_alloc) | exact HK.out)⟩, ⟨by repeat (first | (with_reducible first | exact HB.out | apply below_alloc | apply pw_below_drewN | apply below_drew1 | refine below_set ?_ (IsS90.ge HI0.out)) | exact HB.out)⟩⟩
             ·rw [if_neg c67] at H
              exact absurd H (by simp)
   ·rw [if_neg c6] at H
    have c6b0 : decide (x5_1 < t134) = false := decide_eq_false c6
    clear c6
    have HC72 := Aside0.mk H
    clear H
    go_upto_region 35 with (fail)
    go_cut [129] (fun v129 wc => ∃ (kq : Nat) (x129_71 : Bool) (x1001_71 : Int), v129 = .bool x129_71 ∧ Aside0 (spec_l9Draw.j7 kq x4_1 x129_71 s0_0 x1001_71 = some (r1, r2)) ∧ Aside0 (kq ≤ k1) ∧ Aside0 (Kd.S k41 41 wc w.heap.size (fun _ => True) u4 x4_1) ∧ Aside0 (IsS90 w0 wc g s0_0 x1001_71) ∧ Aside0 (KeepBut w wc g none) ∧ Aside0 (Below w0.heap.size w0 wc))
    case first =>
     have H := HC72.out
     clear HC72
     replace H := Option.bind_eq_some_iff.mp H
     obtain ⟨⟨t181, t182⟩, A730, H⟩ := H
     replace H : (if t181 = true then (spec_l9Draw.j7 k1 x4_1 (decide ((x4_1.length : Int) > 0)) s0_0 t182) else (spec_l9Draw.j7 k1 x4_1 false s0_0 t182)) = some (r1, r2) := H
     have A73 := Aside0.mk A730
     clear A730
     by_cases c74 : t181 = true
     ·subst c74
      have H1 : (spec_l9Draw.j7 k1 x4_1 (decide ((x4_1.length : Int) > 0)) s0_0 t182) = some (r1, r2) := by rw [if_pos rfl] at H; exact H
      clear H
      have H := H1
      clear H1
      have H' := Aside0.mk H
      clear H
      go_wp2_with (first | ((with_reducible refine gate_callee (f := 47) rfl ?_); refine goesL_ (some 124) rfl rfl Try.func47 (by kernel_rfl) rfl #[.pointer (some ⟨g, 0, none⟩), .int .i64 20] rfl (by (try simp only [List.map_toArray, List.map_cons, List.map_nil]); first | done | rfl | (simp only [List.length_drop, List.length_take]; rfl)) ?_; (with_reducible refine (spec_l1Rd_once.calls g s0_0 x1001_1 20 true t182 w0 _ ?side1 ?side2 A73.out).mono ?_); (case side1 => repeat (first | (with_reducible first | exact HI0.out | apply IsS90.alloc | apply IsS90.drewN | apply IsS90.drew | apply IsS90.set_1) | exact HI0.out)); (case side2 => repeat (first | (with_reducible first | exact HB.out | apply below_alloc | apply pw_below_drewN | apply below_drew1 | refine below_set ?_ (IsS90.ge HI0.out)) | exact HB.out)); rintro e w75 ⟨rfl, hi, hb, hk⟩; refine ⟨_, rfl, ?_⟩; have n0_ := Aside0.mk (Kd.S_mono (Kd.S_keep (IsS90.apartS (show IsS90 w0 _ g s0_0 x1001_1 from by repeat (first | (with_reducible first | exact HI0.out | apply IsS90.alloc | apply IsS90.drewN | apply IsS90.drew | apply IsS90.set_1) | exact HI0.out)) (by (with_reducible repeat (first | apply Kd.S_alloc | apply Kd.S_drewN | apply Kd.S_drew)); exact HO_4.out) (by decide)) hk (fun _ h => h.2)) (fun _ h => h.1)); have n1_ := Aside0.mk (KeepBut.trans (by repeat (first | (with_reducible first | exact HK.out | apply KeepBut.set_ | apply keep_drewN | apply keep_drew | apply keep_alloc) | exact HK.out)) hk (.inl rfl)); have n2_ := Aside0.mk (hb); have n3_ := Aside0.mk (hi); clear HO_4; clear HK; clear HB; clear HI0; have HO_4 := n0_; have HK := n1_; have HB := n2_; have HI0 := n3_; clear n0_ n1_ n2_ n3_; (try clear hb); (try clear hb2); (try clear hk); (try clear hi); obtain ⟨Ao76, co76, eo76⟩ := Kd.S_slice HO_4.out; subst eo76))
      go_meet
      case rel => exact ⟨_, (decide ((x4_1.length : Int) > 0)), (t182), (by first | rfl | (simp; done) | (simp [*]; done)), H', ⟨by have := HK1.out; first | omega | exact Nat.le_refl _⟩, ⟨by (with_reducible repeat (first | apply Kd.S_alloc | apply Kd.S_drewN | apply Kd.S_drew)); exact HO_4.out⟩, ⟨by repeat (first | (with_reducible first | exact HI0.out | apply IsS90.alloc | apply IsS90.drewN | apply IsS90.drew | apply IsS90.set_1) | exact HI0.out)⟩, ⟨by repeat (first | (with_reducible first | exact HK.out | apply KeepBut.set_ | apply keep_drewN | apply keep_drew | apply keep_alloc) | exact HK.out)⟩, ⟨by repeat (first | (with_reducible first | exact HB.out | apply below_alloc | apply pw_below_drewN | apply below_drew1 | refine below_set ?_ (IsS90.ge HI0.out)) | exact HB.out)⟩⟩
     ·replace c74 := Bool.eq_false_iff.mpr c74
      subst c74
      have H1 : (spec_l9Draw.j7 k1 x4_1 false s0_0 t182) = some (r1, r2) := by rw [if_neg (show ¬ (false = true) by decide)] at H; exact H
      clear H
      have H := H1
      clear H1
      have H' := Aside0.mk H
      clear H
      go_wp2_with (first | ((with_reducible refine gate_callee (f := 47) rfl ?_); refine goesL_ (some 124) rfl rfl Try.func47 (by kernel_rfl) rfl #[.pointer (some ⟨g, 0, none⟩), .int .i64 20] rfl (by (try simp only [List.map_toArray, List.map_cons, List.map_nil]); first | done | rfl | (simp only [List.length_drop, List.length_take]; rfl)) ?_; (with_reducible refine (spec_l1Rd_once.calls g s0_0 x1001_1 20 false t182 w0 _ ?side1 ?side2 A73.out).mono ?_); (case side1 => repeat (first | (with_reducible first | exact HI0.out | apply IsS90.alloc | apply IsS90.drewN | apply IsS90.drew | apply IsS90.set_1) | exact HI0.out)); (case side2 => repeat (first | (with_reducible first | exact HB.out | apply below_alloc | apply pw_below_drewN | apply below_drew1 | refine below_set ?_ (IsS90.ge HI0.out)) | exact HB.out)); rintro e w77 ⟨rfl, hi, hb, hk⟩; refine ⟨_, rfl, ?_⟩; have n0_ := Aside0.mk (Kd.S_mono (Kd.S_keep (IsS90.apartS (show IsS90 w0 _ g s0_0 x1001_1 from by repeat (first | (with_reducible first | exact HI0.out | apply IsS90.alloc | apply IsS90.drewN | apply IsS90.drew | apply IsS90.set_1) | exact HI0.out)) (by (with_reducible repeat (first | apply Kd.S_alloc | apply Kd.S_drewN | apply Kd.S_drew)); exact HO_4.out) (by decide)) hk (fun _ h => h.2)) (fun _ h => h.1)); have n1_ := Aside0.mk (KeepBut.trans (by repeat (first | (with_reducible first | exact HK.out | apply KeepBut.set_ | apply keep_drewN | apply keep_drew | apply keep_alloc) | exact HK.out)) hk (.inl rfl)); have n2_ := Aside0.mk (hb); have n3_ := Aside0.mk (hi); clear HO_4; clear HK; clear HB; clear HI0; have HO_4 := n0_; have HK := n1_; have HB := n2_; have HI0 := n3_; clear n0_ n1_ n2_ n3_; (try clear hb); (try clear hb2); (try clear hk); (try clear hi)))
      go_meet
      case rel => exact ⟨_, (false), (t182), (by first | rfl | (simp; done) | (simp [*]; done)), H', ⟨by have := HK1.out; first | omega | exact Nat.le_refl _⟩, ⟨by (with_reducible repeat (first | apply Kd.S_alloc | apply Kd.S_drewN | apply Kd.S_drew)); exact HO_4.out⟩, ⟨by repeat (first | (with_reducible first | exact HI0.out | apply IsS90.alloc | apply IsS90.drewN | apply IsS90.drew | apply IsS90.set_1) | exact HI0.out)⟩, ⟨by repeat (first | (with_reducible first | exact HK.out | apply KeepBut.set_ | apply keep_drewN | apply keep_drew | apply keep_alloc) | exact HK.out)⟩, ⟨by repeat (first | (with_reducible first | exact HB.out | apply below_alloc | apply pw_below_drewN | apply below_drew1 | refine below_set ?_ (IsS90.ge HI0.out)) | exact HB.out)⟩⟩
    case rest =>
     clear HC72
     try clear c1
     try clear p1
     try clear q1
     try clear hx1
     try clear c2
     try clear p2
     try clear c3
     try clear c4
     try clear c5
     try clear p5
     try clear q5
     try clear hx5
     try clear hf5
     try clear c6
     try clear c6b0
     try clear p6
     try clear c7
     try clear c12
     try clear c12b0
     try clear c13
     try clear p15
     try clear q15
     try clear hx15
     try clear p17
     try clear q17
     try clear hx17
     try clear c19
     try clear c21
     try clear c21b0
     try clear c24
     try clear c24b0
     try clear c25
     try clear c27
     try clear c27b0
     try clear c29
     try clear c31
     try clear c32
     try clear c38
     try clear c42
     try clear c44
     try clear c46
     try clear c47
     try clear c48
     try clear c51
     try clear c51b0
     try clear c53
     try clear c53b0
     try clear c54
     try clear c54b0
     try clear c55
     try clear c55b0
     try clear c56
     try clear c56b0
     try clear c57
     try clear c57b0
     try clear p58
     try clear q58
     try clear hx58
     try clear hf58
     try clear p59
     try clear q59
     try clear hx59
     try clear hf59
     try clear p64
     try clear c67
     try clear c74
     try clear hx150_0
     try clear hx175_0
     try clear hx176_0
     try clear hx177_0
     try clear hx178_0
     try clear hx58_0
     try clear hx59_0
     try clear p1
     try clear p15
     try clear p150
     try clear p175
     try clear p176
     try clear p177
     try clear p178
     try clear p2
     try clear p58
     try clear p59
     try clear p6
     try clear q1
     try clear q15
     try clear q150
     try clear q175
     try clear q176
     try clear q177
     try clear q178
     try clear q58
     try clear q59
     obtain ⟨kq, x129_71, x1001_71, rfl, HA, HJ71, HO_4, HI0, HK, HB⟩ := hcut
     cases kq with
     | zero => exact absurd HA.out (by simp [spec_l9Draw.j7])
     | succ kj71 =>
      have H := HA.out
      clear HA
      simp only [spec_l9Draw.j7] at H
      have HC78 := Aside0.mk H
      clear H
      go_upto_if 129 with (fail)
      go_cut [] (fun wc => ∃ (kq : Nat) (x4_77 : List (S41)) (x1001_77 : Int), Aside0 (spec_l9Draw.j8 kq x4_77 s0_0 x1001_77 = some (r1, r2)) ∧ Aside0 (kq ≤ kj71) ∧ Aside0 (Kd.S k41 41 wc w.heap.size (fun _ => True) u4 x4_77) ∧ Aside0 (IsS90 w0 wc g s0_0 x1001_77) ∧ Aside0 (KeepBut w wc g none) ∧ Aside0 (Below w0.heap.size w0 wc))
      case first =>
       have H := HC78.out
       clear HC78
       by_cases c79 : x129_71 = true
       ·subst c79
        have H1 : ((spec_l1Rd_below.f s0_0 x1001_71 (x4_1.length : Int)).bind fun bt183 => (if 0 ≤ bt183.1 then (if bt183.1 < (x4_1.length : Int) then ((spec_l1Rd_below.f s0_0 bt183.2 (wrap64 ((x4_1.length : Int) + 2))).bind fun bt186 => (if ((rd_T41 x4_1 bt183.1).f0).length < 17592186044416 then (spec_l9Draw.j8 kj71 (x4_1.set (bt183.1 : Int).toNat (⟨(((rd_T41 x4_1 bt183.1).f0) ++ [wrap64 (bt186.1 - 1)]), (rd_T41 x4_1 bt183.1).f1⟩ : S41)) s0_0 bt186.2) else (none))) else (none)) else (none))) = some (r1, r2) := by rw [if_pos rfl] at H; exact H
        clear H
        have H := H1
        clear H1
        replace H := Option.bind_eq_some_iff.mp H
        obtain ⟨⟨t183, t184⟩, A800, H⟩ := H
        replace H : (if 0 ≤ t183 then (if t183 < (x4_1.length : Int) then ((spec_l1Rd_below.f s0_0 t184 (wrap64 ((x4_1.length : Int) + 2))).bind fun bt186 => (if ((rd_T41 x4_1 t183).f0).length < 17592186044416 then (spec_l9Draw.j8 kj71 (x4_1.set (t183 : Int).toNat (⟨(((rd_T41 x4_1 t183).f0) ++ [wrap64 (bt186.1 - 1)]), (rd_T41 x4_1 t183).f1⟩ : S41)) s0_0 bt186.2) else (none))) else (none)) else (none)) = some (r1, r2) := H
        have A80 := Aside0.mk A800
        clear A800
        by_cases c81 : 0 ≤ t183
        ·rw [if_pos c81] at H
         have c81b0 : decide (0 ≤ t183) = true := decide_eq_true c81
         clear c81
         (first | rw [c81b0] | (simp only [i64_w, i32_w]; rw [c81b0]) | skip)
         by_cases c82 : t183 < (x4_1.length : Int)
         ·rw [if_pos c82] at H
          have c82b0 : decide (t183 < (x4_1.length : Int)) = true := decide_eq_true c82
          (try simp only [hl6_5] at c82b0)
          clear c82
          replace H := Option.bind_eq_some_iff.mp H
          obtain ⟨⟨t186, t187⟩, A830, H⟩ := H
          replace H : (if ((rd_T41 x4_1 t183).f0).length < 17592186044416 then (spec_l9Draw.j8 kj71 (x4_1.set (t183 : Int).toNat (⟨(((rd_T41 x4_1 t183).f0) ++ [wrap64 (t186 - 1)]), (rd_T41 x4_1 t183).f1⟩ : S41)) s0_0 t187) else (none)) = some (r1, r2) := H
          have A83 := Aside0.mk A830
          clear A830
          by_cases c84 : ((rd_T41 x4_1 t183).f0).length < 17592186044416
          ·rw [if_pos c84] at H
           have LMc84 := Aside0.mk c84
           clear c84
           obtain ⟨y188, hy188⟩ : ∃ y_ : List Int, y_ = (((rd_T41 x4_1 t183).f0) ++ [wrap64 (t186 - 1)]) := ⟨_, rfl⟩
           replace H : (spec_l9Draw.j8 kj71 (x4_1.set (t183 : Int).toNat (⟨y188, (rd_T41 x4_1 t183).f1⟩ : S41)) s0_0 t187) = some (r1, r2) := by first | (rw [hy188]; with_reducible exact H) | (have H2_ := (Option.bind_some _ _).symm.trans H; rw [hy188]; with_reducible exact H2_) | (have H2_ := (Option.bind_some _ _).symm.trans H; with_reducible exact H2_) | with_reducible exact H | (rw [hy188]; exact H) | exact H
           have Ny188 := Aside0.mk hy188
           clear hy188
           obtain ⟨y191, hy191⟩ : ∃ y_ : List (S41), y_ = (x4_1.set (t183 : Int).toNat (⟨y188, (rd_T41 x4_1 t183).f1⟩ : S41)) := ⟨_, rfl⟩
           replace H : (spec_l9Draw.j8 kj71 y191 s0_0 t187) = some (r1, r2) := by first | (rw [hy191]; with_reducible exact H) | (have H2_ := (Option.bind_some _ _).symm.trans H; rw [hy191]; with_reducible exact H2_) | (have H2_ := (Option.bind_some _ _).symm.trans H; with_reducible exact H2_) | with_reducible exact H | (rw [hy191]; exact H) | exact H
           have Ny191 := Aside0.mk hy191
           clear hy191
           have H' := Aside0.mk H
           clear H
           obtain ⟨Ao86, co86, eo86⟩ := Kd.S_slice HO_4.out
           subst eo86
           try go_wp2_with (first | ((with_reducible refine gate_callee (f := 46) rfl ?_); refine goesL_ (some 133) rfl rfl Try.func46 (by kernel_rfl) rfl #[.pointer (some ⟨g, 0, none⟩), .int .i64 (x4_1.length : Int)] rfl (by (try simp only [List.map_toArray, List.map_cons, List.map_nil]); first | done | rfl | (simp only [List.length_drop, List.length_take]; rfl)) ?_; (with_reducible refine (spec_l1Rd_below.calls g s0_0 x1001_71 (x4_1.length : Int) t183 t184 w0 _ ?side1 ?side2 A80.out).mono ?_); (case side1 => repeat (first | (with_reducible first | exact HI0.out | apply IsS90.alloc | apply IsS90.drewN | apply IsS90.drew | apply IsS90.set_1) | exact HI0.out)); (case side2 => repeat (first | (with_reducible first | exact HB.out | apply below_alloc | apply pw_below_drewN | apply below_drew1 | refine below_set ?_ (IsS90.ge HI0.out)) | exact HB.out)); rintro e w87 ⟨rfl, hi, hb, hk⟩; refine ⟨_, rfl, ?_⟩; have n0_ := Aside0.mk (Kd.S_mono (Kd.S_keep (IsS90.apartS (show IsS90 w0 _ g s0_0 x1001_71 from by repeat (first | (with_reducible first | exact HI0.out | apply IsS90.alloc | apply IsS90.drewN | apply IsS90.drew | apply IsS90.set_1) | exact HI0.out)) (by (with_reducible repeat (first | apply Kd.S_alloc | apply Kd.S_drewN | apply Kd.S_drew)); exact HO_4.out) (by decide)) hk (fun _ h => h.2)) (fun _ h => h.1)); have n1_ := Aside0.mk (KeepBut.trans (by repeat (first | (with_reducible first | exact HK.out | apply KeepBut.set_ | apply keep_drewN | apply keep_drew | apply keep_alloc) | exact HK.out)) hk (.inl rfl)); have n2_ := Aside0.mk (hb); have n3_ := Aside0.mk (hi); clear HO_4; clear HK; clear HB; clear HI0; have HO_4 := n0_; have HK := n1_; have HB := n2_; have HI0 := n3_; clear n0_ n1_ n2_ n3_; (try clear hb); (try clear hb2); (try clear hk); (try clear hi)))
           have n0_ := Aside0.mk (Kd.S_drew HO_4.out)
           have n1_ := Aside0.mk (IsS90.drew HI0.out)
           have n2_ := Aside0.mk (keep_drew HK.out)
           have n3_ := Aside0.mk (below_drew1 HB.out)
           clear HO_4
           clear HI0
           clear HK
           clear HB
           have HO_4 := n0_
           have HI0 := n1_
           have HK := n2_
           have HB := n3_
           clear n0_ n1_ n2_ n3_
           have p185 : 0 ≤ (t183 : Int) := of_decide_eq_true (by first | (with_reducible assumption) | assumption)
           have q185 : t183 < (x4_1.length : Int) := of_decide_eq_true (by first | (with_reducible assumption) | assumption)
           obtain ⟨ad185, A185_0, c185_0, A185_1, c185_1, e185, hx185_0, hx185_1, hl185_0, hi185_0, hl185_1, hi185_1⟩ := at_T41 (Kd.S_reads' HO_4.out).2.2 t183 p185 q185
           cases e185
           obtain ⟨ce185, hce185, hMe185, hcc185⟩ := Kd.S_get HO_4.out z41 t183 p185 (by first | exact q185 | exact of_decide_eq_true (by first | (with_reducible assumption) | assumption) | (have e_ := (Kd.S_reads' HO_4.out).1; omega))
           obtain ⟨ve185_0, ve185_1, rfl, ge185_0, ge185_1⟩ := k41_openM hMe185
           have hv185_0 := hcc185 0 _ rfl
           rw [Nat.add_zero] at hv185_0
           replace hv185_0 := Option.some.inj (hv185_0.symm.trans hx185_0)
           rw [hv185_0] at ge185_0
           have HL185_0 := Aside0.mk (show Kd.R (Kd.int .i64) 2 _ _ _ _ ((rd_T41 x4_1 t183).f0) from ge185_0)
           clear hv185_0 ge185_0
           have HX185_0 := Aside0.mk hx185_0
           have hv185_1 := hcc185 1 _ rfl
           rw [add_field _ _ 1 (by omega)] at hv185_1
           replace hv185_1 := Option.some.inj (hv185_1.symm.trans hx185_1)
           rw [hv185_1] at ge185_1
           have HL185_1 := Aside0.mk (show Kd.R k48 48 _ _ _ _ ((rd_T41 x4_1 t183).f1) from ge185_1)
           clear hv185_1 ge185_1
           have HX185_1 := Aside0.mk hx185_1
           clear hcc185 hce185
           have HR185_0 := Aside0.mk hi185_0
           have HC185_0 := Aside0.mk hl185_0
           clear hi185_0 hl185_0
           have HR185_1 := Aside0.mk hi185_1
           have HC185_1 := Aside0.mk hl185_1
           clear hi185_1 hl185_1
           replace p185 := eq_true p185
           replace q185 := eq_true q185
           refine start_ (n := 18) (S := fun w' => w'.cell? (ad185.add ((t183).toNat * 2)) = some (.slice A185_0 ((rd_T41 x4_1 t183).f0).length c185_0) ∧ w'.cell? ⟨(ad185.add ((t183).toNat * 2)).block, (ad185.add ((t183).toNat * 2)).off + 1, none⟩ = some (.slice A185_1 ((rd_T41 x4_1 t183).f1).length c185_1)) (ds := [17]) #[false, false, false, false, false, false, false, false, false, false, false, false, false, false, false, false, false, false] (by kernel_rfl) rfl rfl ⟨hx185_0, hx185_1⟩ (fun hHeld => ?_); refine with_tabW spec_l9Draw.tab37 spec_l9Draw.bits37 (fun HT_ HW_ => ?_)
           generalize w87.drew = w88 at HO_4 HI0 HK HB HL185_0 HL185_1 HR185_0 HR185_1 HX185_0 HX185_1 hx185_0 hx185_1 hHeld ⊢
           refine pure_ (i := 0) (N := some 134) (v := ?_) (a' := ?_) #[true, false, false, false, false, false, false, false, false, false, false, false, false, false, false, false, false, false] rfl rfl (any_of HT_.out (by kernel_rfl)) (fun _ _ _ h => h) (Or.inl ⟨by rfl, ?_⟩) ?_ ?_
           rotate_left
           ·intro w'
            go_simp
            with_reducible rfl
           rotate_left
           ·simp only [Act.put, List.setIfInBounds_toArray, List.set_cons_zero, List.set_cons_succ, i64_w, i32_w]
            rfl
           refine pure_ (i := 1) (N := some 135) (v := ?_) (a' := ?_) #[true, true, false, false, false, false, false, false, false, false, false, false, false, false, false, false, false, false] rfl rfl (any_of HT_.out (by kernel_rfl)) (fun _ _ _ h => h) (Or.inl ⟨by rfl, ?_⟩) ?_ ?_
           rotate_left
           ·intro w'
            go_simp
            with_reducible rfl
           rotate_left
           ·simp only [Act.put, List.setIfInBounds_toArray, List.set_cons_zero, List.set_cons_succ, i64_w, i32_w]
            rfl
           refine pure_ (i := 2) (N := some 136) (v := ?_) (a' := ?_) #[true, true, true, false, false, false, false, false, false, false, false, false, false, false, false, false, false, false] rfl rfl (any_of HT_.out (by kernel_rfl)) (fun _ _ _ h => h) (Or.inl ⟨by rfl, ?_⟩) ?_ ?_
           rotate_left
           ·intro w'
            go_simp
            with_reducible rfl
           rotate_left
           ·simp only [Act.put, List.setIfInBounds_toArray, List.set_cons_zero, List.set_cons_succ, i64_w, i32_w]
            rfl
           refine pure_ (i := 3) (N := some 137) (v := ?_) (a' := ?_) #[true, true, true, true, false, false, false, false, false, false, false, false, false, false, false, false, false, false] rfl rfl (any_of HT_.out (by kernel_rfl)) (fun _ _ _ h => h) (Or.inl ⟨by rfl, ?_⟩) ?_ ?_
           rotate_left
           ·intro w'
            go_simp
            with_reducible rfl
           rotate_left
           ·simp only [Act.put, List.setIfInBounds_toArray, List.set_cons_zero, List.set_cons_succ, i64_w, i32_w]
            rfl
           refine pure_ (i := 4) (N := some 138) (v := ?_) (a' := ?_) #[true, true, true, true, true, false, false, false, false, false, false, false, false, false, false, false, false, false] rfl rfl (any_of HT_.out (by kernel_rfl)) (fun _ _ _ h => h) (Or.inl ⟨by rfl, ?_⟩) ?_ ?_
           rotate_left
           ·intro w'
            go_simp
            with_reducible rfl
           rotate_left
           ·simp only [Act.put, List.setIfInBounds_toArray, List.set_cons_zero, List.set_cons_succ, i64_w, i32_w]
            rfl
           refine pure_ (i := 5) (N := some 139) (v := ?_) (a' := ?_) #[true, true, true, true, true, true, false, false, false, false, false, false, false, false, false, false, false, false] rfl rfl (any_of HT_.out (by kernel_rfl)) (fun _ _ _ h => h) (Or.inl ⟨by rfl, ?_⟩) ?_ ?_
           rotate_left
           ·intro w'
            go_simp
            with_reducible rfl
           rotate_left
           ·simp only [Act.put, List.setIfInBounds_toArray, List.set_cons_zero, List.set_cons_succ, i64_w, i32_w]
            rfl
           refine pure_ (i := 7) (N := some 141) (v := ?_) (a' := ?_) #[true, true, true, true, true, true, false, true, false, false, false, false, false, false, false, false, false, false] rfl rfl (any_of HT_.out (by kernel_rfl)) (fun _ _ _ h => h) (Or.inl ⟨by rfl, ?_⟩) ?_ ?_
           rotate_left
           ·intro w'
            go_simp
            with_reducible rfl
           rotate_left
           ·simp only [Act.put, List.setIfInBounds_toArray, List.set_cons_zero, List.set_cons_succ, i64_w, i32_w]
            rfl
           refine pure_ (i := 8) (N := some 142) (v := ?_) (a' := ?_) #[true, true, true, true, true, true, false, true, true, false, false, false, false, false, false, false, false, false] rfl rfl (any_of HT_.out (by kernel_rfl)) (fun _ _ _ h => h) (Or.inl ⟨by rfl, ?_⟩) ?_ ?_
           rotate_left
           ·intro w'
            go_simp
            with_reducible rfl
           rotate_left
           ·simp only [Act.put, List.setIfInBounds_toArray, List.set_cons_zero, List.set_cons_succ, i64_w, i32_w]
            rfl
           refine pure_ (i := 9) (N := some 143) (v := ?_) (a' := ?_) #[true, true, true, true, true, true, false, true, true, true, false, false, false, false, false, false, false, false] rfl rfl (any_of HT_.out (by kernel_rfl)) (fun _ _ _ h => h) (Or.inl ⟨by rfl, ?_⟩) ?_ ?_
           rotate_left
           ·intro w'
            go_simp
            with_reducible rfl
           rotate_left
           ·simp only [Act.put, List.setIfInBounds_toArray, List.set_cons_zero, List.set_cons_succ, i64_w, i32_w]
            rfl
           refine pure_ (i := 10) (N := some 144) (v := ?_) (a' := ?_) #[true, true, true, true, true, true, false, true, true, true, true, false, false, false, false, false, false, false] rfl rfl (any_of HT_.out (by kernel_rfl)) (fun _ _ _ h => h) (Or.inl ⟨by rfl, ?_⟩) ?_ ?_
           rotate_left
           ·intro w'
            go_simp
            with_reducible rfl
           rotate_left
           ·simp only [Act.put, List.setIfInBounds_toArray, List.set_cons_zero, List.set_cons_succ, i64_w, i32_w]
            rfl
           refine take_ (i := 6) (N := some 140) (v := ?_) (a' := ?_) #[true, true, true, true, true, true, true, true, true, true, true, false, false, false, false, false, false, false] rfl rfl (take_ofW HT_.out HW_.out (by kernel_rfl)) (fun _ _ _ h => h) (Or.inl ⟨by rfl, ?_⟩) hHeld ?_ ?_
           rotate_left
           ·rintro w' ⟨s0, s1⟩
            go_simp
            with_reducible rfl
           rotate_left
           ·simp only [Act.put, List.setIfInBounds_toArray, List.set_cons_zero, List.set_cons_succ, i64_w, i32_w]
            rfl
           refine one_ (i := 11) (N := some 145) #[true, true, true, true, true, true, true, true, true, true, true, true, false, false, false, false, false, false] rfl rfl (one_of HT_.out (by kernel_rfl)) (by decide) (fun K hK => ?_)
           refine goes_ Try.func46 (by kernel_rfl) rfl #[.pointer (some ⟨g, 0, none⟩), .int .i64 (wrap64 ((x4_1.length : Int) + 2))] (by rfl) rfl rfl (by (try simp only [List.map_toArray, List.map_cons, List.map_nil]); first | done | rfl | (simp only [List.length_drop, List.length_take]; rfl)) ?_
           with_reducible refine (spec_l1Rd_below.calls g s0_0 t184 (wrap64 ((x4_1.length : Int) + 2)) t186 t187 w0 _ ?side1 ?side2 A83.out).mono ?_
           (case side1 => repeat (first | (with_reducible first | exact HI0.out | apply IsS90.alloc | apply IsS90.drewN | apply IsS90.drew | apply IsS90.set_1) | exact HI0.out))
           (case side2 => repeat (first | (with_reducible first | exact HB.out | apply below_alloc | apply pw_below_drewN | apply below_drew1 | refine below_set ?_ (IsS90.ge HI0.out)) | exact HB.out))
           rintro e w89 ⟨rfl, hi, hb, hk⟩
           have HS0_ := keep_cell hk (hHeld.1) (by first | (rw [add_block]; exact Kd.own_blk (IsS90.own_neS HI0.out HO_4.out (by decide))) | (show (Addr.add _ _).block ≠ _; rw [add_block]; exact Kd.own_blk (IsS90.own_neS HI0.out HO_4.out (by decide))) | exact Kd.own_blk (IsS90.own_neS HI0.out HO_4.out (by decide)))
           have HS1_ := keep_cell hk (hHeld.2) (by first | (rw [add_block]; exact Kd.own_blk (IsS90.own_neS HI0.out HO_4.out (by decide))) | (show (Addr.add _ _).block ≠ _; rw [add_block]; exact Kd.own_blk (IsS90.own_neS HI0.out HO_4.out (by decide))) | exact Kd.own_blk (IsS90.own_neS HI0.out HO_4.out (by decide)))
           refine ⟨_, rfl, ?_⟩
           have n0_ := Aside0.mk (Kd.S_mono (Kd.S_keep (IsS90.apartS (show IsS90 w0 _ g s0_0 t184 from by repeat (first | (with_reducible first | exact HI0.out | apply IsS90.alloc | apply IsS90.drewN | apply IsS90.drew | apply IsS90.set_1) | exact HI0.out)) (by (with_reducible repeat (first | apply Kd.S_alloc | apply Kd.S_drewN | apply Kd.S_drew)); exact HO_4.out) (by decide)) hk (fun _ h => h.2)) (fun _ h => h.1))
           have n1_ := Aside0.mk (Kd.R_mono (Kd.R_keep (IsS90.apart (show IsS90 w0 _ g s0_0 t184 from by repeat (first | (with_reducible first | exact HI0.out | apply IsS90.alloc | apply IsS90.drewN | apply IsS90.drew | apply IsS90.set_1) | exact HI0.out)) (by (with_reducible repeat (first | apply Kd.R_alloc | apply Kd.R_drewN | apply Kd.R_drew)); exact HL185_0.out) (by decide)) hk (fun _ h => h.2)) (fun _ h => h.1))
           have n2_ := Aside0.mk (keep_cell hk HX185_0.out (by first | (rw [add_block]; exact Kd.own_blk (IsS90.own_neS HI0.out HO_4.out (by decide))) | (show (Addr.add _ _).block ≠ _; rw [add_block]; exact Kd.own_blk (IsS90.own_neS HI0.out HO_4.out (by decide))) | exact Kd.own_blk (IsS90.own_neS HI0.out HO_4.out (by decide)) | (dsimp only; exact Kd.own_blk (IsS90.own_neS HI0.out HO_4.out (by decide)))))
           have n3_ := Aside0.mk (Kd.R_mono (Kd.R_keep (IsS90.apart (show IsS90 w0 _ g s0_0 t184 from by repeat (first | (with_reducible first | exact HI0.out | apply IsS90.alloc | apply IsS90.drewN | apply IsS90.drew | apply IsS90.set_1) | exact HI0.out)) (by (with_reducible repeat (first | apply Kd.R_alloc | apply Kd.R_drewN | apply Kd.R_drew)); exact HL185_1.out) (by decide)) hk (fun _ h => h.2)) (fun _ h => h.1))
           have n4_ := Aside0.mk (keep_cell hk HX185_1.out (by first | (rw [add_block]; exact Kd.own_blk (IsS90.own_neS HI0.out HO_4.out (by decide))) | (show (Addr.add _ _).block ≠ _; rw [add_block]; exact Kd.own_blk (IsS90.own_neS HI0.out HO_4.out (by decide))) | exact Kd.own_blk (IsS90.own_neS HI0.out HO_4.out (by decide)) | (dsimp only; exact Kd.own_blk (IsS90.own_neS HI0.out HO_4.out (by decide)))))
           have n5_ := Aside0.mk (KeepBut.trans (by repeat (first | (with_reducible first | exact HK.out | apply KeepBut.set_ | apply keep_drewN | apply keep_drew | apply keep_alloc) | exact HK.out)) hk (.inl rfl))
           have n6_ := Aside0.mk (hb)
           have n7_ := Aside0.mk (hi)
           clear HO_4
           clear HL185_0
           clear HX185_0
           clear HL185_1
           clear HX185_1
           clear HK
           clear HB
           clear HI0
           have HO_4 := n0_
           have HL185_0 := n1_
           have HX185_0 := n2_
           have HL185_1 := n3_
           have HX185_1 := n4_
           have HK := n5_
           have HB := n6_
           have HI0 := n7_
           clear n0_ n1_ n2_ n3_ n4_ n5_ n6_ n7_
           (try clear hb)
           (try clear hb2)
           (try clear hk)
           (try clear hi)
           obtain ⟨go90, co90, eo90, gb90, gl90, cl90, HG90⟩ := Kd.S_form HO_4.out (by have h_ : (t183 : Int) < ((x4_1.length : Int) : Int) := of_decide_eq_true (by first | (with_reducible assumption) | assumption); have h2_ : 0 ≤ (t183 : Int) := (of_decide_eq_true (by first | (with_reducible assumption) | assumption)); omega)
           (first | cases eo90 | (injection eo90 with ea_ en_ ec_; (first | subst ea_ | (injection ea_ with ea_; subst ea_)); subst ec_; clear en_))
           have GB90 := Aside0.mk gb90
           have GG90 := Aside0.mk HG90
           clear gb90 gl90 HG90
           (first | simp only [add_plain] at hx185_0 | skip)
           (first | simp only [add_plain] at hx185_1 | skip)
           obtain ⟨oki90, ce90, hcl90, hM90, hcc90, _, _, hH90⟩ := Kd.S_elem HO_4.out z41 (t183 : Int) (of_decide_eq_true (by first | (with_reducible assumption) | assumption)) (by have h_ : (t183 : Int) < ((x4_1.length : Int) : Int) := of_decide_eq_true (by first | (with_reducible assumption) | assumption); first | exact h_ | (have e_ := (Kd.S_reads' HO_4.out).1; omega) | simpa using h_)
           obtain ⟨ve90_0, ve90_1, rfl, ge90_0, ge90_1⟩ := k41_openM hM90
           have hv90 := hcc90 0 _ rfl
           have hX90 := HX185_0.out
           (try simp only [add_plain] at hX90)
           (try simp only [Nat.add_zero] at hv90)
           replace hv90 := Option.some.inj (hv90.symm.trans hX90)
           subst hv90
           clear hX90 hcc90 hcl90
           have UU90 := Aside0.mk (show Kd.R (Kd.int .i64) 2 _ w.heap.size oki90 (.slice A185_0 ((rd_T41 x4_1 t183).f0).length c185_0) ((rd_T41 x4_1 t183).f0) from ge90_0)
           have HH90 := Aside0.mk hH90
           have HN90 := Aside0.mk (Kd.S_reads' HO_4.out).1
           have HE90_1 := Aside0.mk ge90_1
           clear hH90 ge90_0 ge90_1
           refine hK.out _ _ ⟨HS0_, HS1_⟩ (fun hHeld => ?_)
           clear hK K
           refine norm_ (a' := ?_) ?_ ?_
           rotate_left
           ·show Act.put _ (some 145) _ = _
            simp only [Act.put, List.setIfInBounds_toArray, List.set_cons_zero, List.set_cons_succ, i64_w, i32_w]
            rfl
           refine pure_ (i := 12) (N := some 146) (v := ?_) (a' := ?_) #[true, true, true, true, true, true, true, true, true, true, true, true, true, false, false, false, false, false] rfl rfl (any_of HT_.out (by kernel_rfl)) (fun _ _ _ h => h) (Or.inl ⟨by rfl, ?_⟩) ?_ ?_
           rotate_left
           ·intro w'
            go_simp
            with_reducible rfl
           rotate_left
           ·simp only [Act.put, List.setIfInBounds_toArray, List.set_cons_zero, List.set_cons_succ, i64_w, i32_w]
            rfl
           refine one_ (i := 13) (N := some 147) #[true, true, true, true, true, true, true, true, true, true, true, true, true, true, false, false, false, false] rfl rfl (one_of HT_.out (by kernel_rfl)) (by decide) (fun K hK => ?_)
           refine value_ (w1 := ?_) (v := ?_) (by rfl) rfl ?_ ?_
           rotate_left 2
           ·go_simp
            constructor
            ·rfl
            ·rfl
           refine hK.out _ _ ⟨(World.cell?_alloc_lt _ _ _ (World.block_lt_of_cell? _ _ (hHeld.1))).trans (hHeld.1), (World.cell?_alloc_lt _ _ _ (World.block_lt_of_cell? _ _ (hHeld.2))).trans (hHeld.2)⟩ (fun hHeld => ?_)
           clear hK K
           refine norm_ (a' := ?_) ?_ ?_
           rotate_left
           ·show Act.put _ (some 147) _ = _
            simp only [Act.put, List.setIfInBounds_toArray, List.set_cons_zero, List.set_cons_succ, i64_w, i32_w]
            rfl
           refine one_ (i := 14) (N := some 148) #[true, true, true, true, true, true, true, true, true, true, true, true, true, true, true, false, false, false] rfl rfl (one_of HT_.out (by kernel_rfl)) (by decide) (fun K hK => ?_)
           refine Kd.R_append_step (Kd.int .i64) w.heap.size (by rfl) (.tmp 140) (.tmp 147) 37 2 (.int .i64 0) 8 rfl Try.underlying37 info2 rfl (by decide) (by omega) (.slice A185_0 ((rd_T41 x4_1 t183).f0).length c185_0) ((rd_T41 x4_1 t183).f0) (wrap64 (t186 - 1)) [.int .i64 (wrap64 (t186 - 1))] (fun k_ => oki90 k_ ∨ ((fun _ => True)) k_ ∧ w89.heap.size ≤ k_) (fun _ => False) rfl rfl ?aP (fun _ hk => hk.elim) ?aF ?aO (Below.refl _ _) ?aS ?aL ?_
           (case aP => exact rfl)
           (case aF => exact (fun k_ hk => .inr ⟨trivial, hk⟩))
           (case aO => exact (by (with_reducible repeat (first | apply Kd.R_alloc | apply Kd.R_drewN | apply Kd.R_drew)); exact Kd.R_mono UU90.out (fun _ hk => .inl hk)))
           (case aS => exact (keep_size (w := w) (g := g) (row := none) (by repeat (first | (with_reducible first | exact HK.out | apply KeepBut.set_ | apply keep_drewN | apply keep_drew | apply keep_alloc) | exact HK.out))))
           (case aL => have := LMc84.out; omega)
           intro v189 w91 ho hb hg hat
           (first | have HS0_ := cell_grown hg (hHeld.1) (by first | (rw [add_block]; exact (fun e_ => ((HL185_0.out.1 _ e_.symm).2) rfl)) | (show some (Addr.add _ _).block ≠ _; rw [add_block]; exact (fun e_ => ((HL185_0.out.1 _ e_.symm).2) rfl)) | exact (fun e_ => ((HL185_0.out.1 _ e_.symm).2) rfl)) | have HS0_ := cell_grown hg (cell_unalloc (hHeld.1) (by first | (rw [add_block]; exact Kd.S_lt HO_4.out _ rfl) | (show (Addr.add _ _).block < _; rw [add_block]; exact Kd.S_lt HO_4.out _ rfl) | exact Kd.S_lt HO_4.out _ rfl)) (by first | (rw [add_block]; exact (fun e_ => ((HL185_0.out.1 _ e_.symm).2) rfl)) | (show some (Addr.add _ _).block ≠ _; rw [add_block]; exact (fun e_ => ((HL185_0.out.1 _ e_.symm).2) rfl)) | exact (fun e_ => ((HL185_0.out.1 _ e_.symm).2) rfl)))
           (first | have HS1_ := cell_grown hg (hHeld.2) (by first | (rw [add_block]; exact (fun e_ => ((HL185_0.out.1 _ e_.symm).2) rfl)) | (show some (Addr.add _ _).block ≠ _; rw [add_block]; exact (fun e_ => ((HL185_0.out.1 _ e_.symm).2) rfl)) | exact (fun e_ => ((HL185_0.out.1 _ e_.symm).2) rfl)) | have HS1_ := cell_grown hg (cell_unalloc (hHeld.2) (by first | (rw [add_block]; exact Kd.S_lt HO_4.out _ rfl) | (show (Addr.add _ _).block < _; rw [add_block]; exact Kd.S_lt HO_4.out _ rfl) | exact Kd.S_lt HO_4.out _ rfl)) (by first | (rw [add_block]; exact (fun e_ => ((HL185_0.out.1 _ e_.symm).2) rfl)) | (show some (Addr.add _ _).block ≠ _; rw [add_block]; exact (fun e_ => ((HL185_0.out.1 _ e_.symm).2) rfl)) | exact (fun e_ => ((HL185_0.out.1 _ e_.symm).2) rfl)))
           rw [← Ny188.out] at ho
           have n0_ := Aside0.mk (IsS90.grown (by repeat (first | (with_reducible first | exact HI0.out | apply IsS90.alloc | apply IsS90.drewN | apply IsS90.drew | apply IsS90.set_1) | exact HI0.out)) hg (IsS90.own_ne HI0.out HL185_0.out (by decide)))
           have n1_ := Aside0.mk (below_weaken (by repeat (first | (with_reducible first | exact HB.out | apply below_alloc | apply pw_below_drewN | apply below_drew1 | refine below_set ?_ (IsS90.ge HI0.out)) | exact HB.out)) HL.out hb)
           have n2_ := Aside0.mk (KeepBut.trans (by repeat (first | (with_reducible first | exact HK.out | apply KeepBut.set_ | apply keep_drewN | apply keep_drew | apply keep_alloc) | exact HK.out)) (KeepBut.of_grown hg g) (Kd.R_base2 HL185_0.out))
           have n3_ := Aside0.mk (Kd.H_grown (Kd.H_widen (by repeat (first | exact HH90.out | refine Kd.H_alloc ?_ _ | refine Kd.H_drewN ?_ _ | refine Kd.H_drew ?_))) hg (fun k_ e_ => .inl (UU90.out.1 k_ e_)))
           have n4_ := Aside0.mk (Kd.R_over' (v := (.slice A185_0 ((rd_T41 x4_1 t183).f0).length c185_0)) (by (with_reducible repeat (first | apply Kd.R_alloc | apply Kd.R_drewN | apply Kd.R_drew)); exact HE90_1.out) (Kd.R_typed UU90.out) (by decide) hg)
           have n5_ := Aside0.mk (ho)
           clear HI0
           clear HB
           clear HK
           clear HH90
           clear HE90_1
           clear HO_4
           clear UU90
           clear HL185_0
           clear HL185_1
           have HI0 := n0_
           have HB := n1_
           have HK := n2_
           have HH90 := n3_
           have HE90_1 := n4_
           have HO190 := n5_
           clear n0_ n1_ n2_ n3_ n4_ n5_
           clear ho hb hg hat
           have p85 : 0 ≤ (t183 : Int) := of_decide_eq_true (by first | (with_reducible assumption) | assumption)
           have q85 : (t183 : Int) < ((x4_1.length : Int) : Int) := of_decide_eq_true (by first | (with_reducible assumption) | assumption)
           replace p85 := eq_true p85
           replace q85 := eq_true q85
           obtain ⟨Ao94, co94, eo94⟩ := Kd.R_slice HO190.out
           (first | subst eo94 | (injection eo94 with f1_ f2_ f3_; have f4_ := f1_.symm; have f5_ := f3_.symm; clear f1_ f2_ f3_; subst f4_; subst f5_))
           obtain ⟨_, _, hraw92, _, _, hcc92, _⟩ := Kd.H_raw HH90.out (of_decide_eq_true (by first | (with_reducible assumption) | assumption)) (by have h_ : (t183 : Int) < ((x4_1.length : Int) : Int) := of_decide_eq_true (by first | (with_reducible assumption) | assumption); first | exact h_ | (have e_ := (HN90.out); omega) | simpa using h_)
           obtain ⟨_, hfr92⟩ := Kd.H_at HH90.out (of_decide_eq_true (by first | (with_reducible assumption) | assumption)) (by have h_ : (t183 : Int) < ((x4_1.length : Int) : Int) := of_decide_eq_true (by first | (with_reducible assumption) | assumption); first | exact h_ | (have e_ := (HN90.out); omega) | simpa using h_)
           have hx92_0 := hcc92 0 _ rfl
           have hf92_0 := hfr92 0
           (try simp only [Nat.add_zero] at hx92_0 hf92_0)
           (try rw [show (k41).sz = 2 from rfl] at hx92_0)
           (try rw [show (k41).sz = 2 from rfl] at hf92_0)
           have HP92 := Kd.S_seg0 HH90.out (of_decide_eq_true (by first | (with_reducible assumption) | assumption)) (by have h_ : (t183 : Int) < ((x4_1.length : Int) : Int) := of_decide_eq_true (by first | (with_reducible assumption) | assumption); first | exact h_ | (have e_ := (HN90.out); omega) | simpa using h_) (seg := [.slice Ao94 y188.length co94]) (j := 0) (show 1 ≤ 2 from by decide) (x' := (⟨y188, (rd_T41 x4_1 t183).f1⟩ : S41)) (k41_mkM _ _ _ (⟨y188, (rd_T41 x4_1 t183).f1⟩ : S41) HO190.out (Kd.R_mono HE90_1.out (fun _ h_ => .inl h_))) (fun _ hk => hk)
           clear hcc92 hfr92
           have HN0_go90 := Aside0.mk (show g ≠ go90 from by have h_ := IsS90.own_ne HI0.out hraw92 (by decide); intro e_; exact h_ (by rw [e_]; rfl))
           have HS92 := HP92.1
           rw [← Ny191.out] at HS92
           have HQ92 := Aside0.mk HS92
           obtain ⟨_, hgg92⟩ := Kd.R_typed hraw92 go90 rfl
           have GG92_ := Aside0.mk hgg92
           clear HP92 HS92 hgg92
           refine hK.out _ _ ⟨HS0_, HS1_⟩ (fun hHeld => ?_)
           clear hK K
           refine norm_ (a' := ?_) ?_ ?_
           rotate_left
           ·show Act.put _ (some 148) _ = _
            simp only [Act.put, List.setIfInBounds_toArray, List.set_cons_zero, List.set_cons_succ, i64_w, i32_w]
            rfl
           refine pure_ (i := 15) (N := some 149) (v := ?_) (a' := ?_) #[true, true, true, true, true, true, true, true, true, true, true, true, true, true, true, true, false, false] rfl rfl (any_of HT_.out (by kernel_rfl)) (fun _ _ _ h => h) (Or.inl ⟨by rfl, ?_⟩) ?_ ?_
           rotate_left
           ·intro w'
            go_simp
            with_reducible rfl
           rotate_left
           ·simp only [Act.put, List.setIfInBounds_toArray, List.set_cons_zero, List.set_cons_succ, i64_w, i32_w]
            rfl
           refine pure_ (i := 16) (N := some 150) (v := ?_) (a' := ?_) #[true, true, true, true, true, true, true, true, true, true, true, true, true, true, true, true, true, false] rfl rfl (any_of HT_.out (by kernel_rfl)) (fun _ _ _ h => h) (Or.inl ⟨by rfl, ?_⟩) ?_ ?_
           rotate_left
           ·intro w'
            go_simp
            with_reducible rfl
           rotate_left
           ·simp only [Act.put, List.setIfInBounds_toArray, List.set_cons_zero, List.set_cons_succ, i64_w, i32_w]
            rfl
           refine last_ (i := 17) (N := none) #[true, true, true, true, true, true, true, true, true, true, true, true, true, true, true, true, true, true] rfl rfl (one_of HT_.out (by kernel_rfl)) (by decide) (fun K hK => ?_)
           refine skip_ (w1 := ?_) (by rfl) rfl ?_ ?_
           rotate_left
           ·go_simp
            rfl
           refine hK.out _ _ ?_
           clear hK K
           refine done_ (done_of HT_.out (by kernel_rfl)) ?_
           try go_wp2
           go_meet
           case rel => exact ⟨_, (y191), (t187), H', ⟨by have := HK1.out; have := HJ71.out; first | omega | exact Nat.le_refl _⟩, ⟨by (with_reducible repeat (first | apply Kd.S_alloc | apply Kd.S_drewN | apply Kd.S_drew)); exact HQ92.out⟩, ⟨by repeat (first | (with_reducible first | exact HI0.out | apply IsS90.alloc | apply IsS90.drewN | apply IsS90.drew | apply IsS90.set_1 | refine IsS90.far ?_ HN0_go90.out _) | exact HI0.out)⟩, ⟨by repeat (first | (with_reducible first | exact HK.out | apply KeepBut.set_ | apply keep_drewN | apply keep_drew | apply keep_alloc | refine keep_far ?_ GB90.out _) | exact HK.out)⟩, ⟨by repeat (first | (with_reducible first | exact HB.out | apply below_alloc | apply pw_below_drewN | apply below_drew1 | refine below_set ?_ (Nat.le_trans HL.out GB90.out) | refine below_set ?_ (IsS90.ge HI0.out)) | exact HB.out)⟩⟩
          ·rw [if_neg c84] at H
           exact absurd H (by simp)
         ·rw [if_neg c82] at H
          exact absurd H (by simp)
        ·rw [if_neg c81] at H
         exact absurd H (by simp)
       ·replace c79 := Bool.eq_false_iff.mpr c79
        subst c79
        have H1 : (spec_l9Draw.j8 kj71 x4_1 s0_0 x1001_71) = some (r1, r2) := by rw [if_neg (show ¬ (false = true) by decide)] at H; exact H
        clear H
        have H := H1
        clear H1
        have H' := Aside0.mk H
        clear H
        go_wp2
        go_meet
        case rel => exact ⟨_, (x4_1), (x1001_71), H', ⟨by have := HK1.out; have := HJ71.out; first | omega | exact Nat.le_refl _⟩, ⟨by (with_reducible repeat (first | apply Kd.S_alloc | apply Kd.S_drewN | apply Kd.S_drew)); exact HO_4.out⟩, ⟨by repeat (first | (with_reducible first | exact HI0.out | apply IsS90.alloc | apply IsS90.drewN | apply IsS90.drew | apply IsS90.set_1) | exact HI0.out)⟩, ⟨by repeat (first | (with_reducible first | exact HK.out | apply KeepBut.set_ | apply keep_drewN | apply keep_drew | apply keep_alloc) | exact HK.out)⟩, ⟨by repeat (first | (with_reducible first | exact HB.out | apply below_alloc | apply pw_below_drewN | apply below_drew1 | refine below_set ?_ (IsS90.ge HI0.out)) | exact HB.out)⟩⟩
      case rest =>
       clear HC78
       try clear c1
       try clear p1
       try clear q1
       try clear hx1
       try clear c2
       try clear p2
       try clear c3
       try clear c4
       try clear c5
       try clear p5
       try clear q5
       try clear hx5
       try clear hf5
       try clear c6
       try clear c6b0
       try clear p6
       try clear c7
       try clear c8
       try clear p8
       try clear q8
       try clear c9
       try clear hx9
       try clear hf9
       try clear c12
       try clear c12b0
       try clear c13
       try clear p15
       try clear q15
       try clear hx15
       try clear p17
       try clear q17
       try clear hx17
       try clear c18
       try clear p18
       try clear q18
       try clear hx18
       try clear c19
       try clear c21
       try clear c21b0
       try clear c24
       try clear c24b0
       try clear c25
       try clear c27
       try clear c27b0
       try clear c29
       try clear c31
       try clear c32
       try clear c38
       try clear c42
       try clear c44
       try clear c46
       try clear c47
       try clear c48
       try clear c51
       try clear c51b0
       try clear c53
       try clear c53b0
       try clear c54
       try clear c54b0
       try clear c55
       try clear c55b0
       try clear c56
       try clear c56b0
       try clear c57
       try clear c57b0
       try clear p58
       try clear q58
       try clear hx58
       try clear hf58
       try clear p59
       try clear q59
       try clear hx59
       try clear hf59
       try clear p64
       try clear c67
       try clear c74
       try clear c79
       try clear c81
       try clear c81b0
       try clear c82
       try clear c82b0
       try clear c84
       try clear p85
       try clear q85
       try clear c90
       try clear c92
       try clear hx92
       try clear hf92
       try clear hx150_0
       try clear hx175_0
       try clear hx176_0
       try clear hx177_0
       try clear hx178_0
       try clear hx185_0
       try clear hx185_1
       try clear hx58_0
       try clear hx59_0
       try clear hx92_0
       try clear p1
       try clear p15
       try clear p150
       try clear p17
       try clear p175
       try clear p176
       try clear p177
       try clear p178
       try clear p185
       try clear p2
       try clear p5
       try clear p58
       try clear p59
       try clear p6
       try clear p64
       try clear p85
       try clear q1
       try clear q15
       try clear q150
       try clear q17
       try clear q175
       try clear q176
       try clear q177
       try clear q178
       try clear q185
       try clear q5
       try clear q58
       try clear q59
       try clear q85
       obtain ⟨kq, x4_77, x1001_77, HA, HJ77, HO_4, HI0, HK, HB⟩ := hcut
       cases kq with
       | zero => exact absurd HA.out (by simp [spec_l9Draw.j8])
       | succ kj77 =>
        have H := HA.out
        clear HA
        simp only [spec_l9Draw.j8] at H
        replace H := Option.bind_eq_some_iff.mp H
        obtain ⟨⟨t192, t193⟩, A950, H⟩ := H
        replace H : (if t192 = true then (spec_l9Draw.l5 kj77 x4_77 s0_0 t193) else (some (x4_77, t193))) = some (r1, r2) := H
        have A95 := Aside0.mk A950
        clear A950
        by_cases c96 : t192 = true
        ·subst c96
         have H1 : (spec_l9Draw.l5 kj77 x4_77 s0_0 t193) = some (r1, r2) := by rw [if_pos rfl] at H; exact H
         clear H
         have H := H1
         clear H1
         have H' := Aside0.mk H
         clear H
         go_wp2_with (first | ((with_reducible refine gate_callee (f := 47) rfl ?_); refine goesL_ (some 152) rfl rfl Try.func47 (by kernel_rfl) rfl #[.pointer (some ⟨g, 0, none⟩), .int .i64 60] rfl (by (try simp only [List.map_toArray, List.map_cons, List.map_nil]); first | done | rfl | (simp only [List.length_drop, List.length_take]; rfl)) ?_; (with_reducible refine (spec_l1Rd_once.calls g s0_0 x1001_77 60 true t193 w0 _ ?side1 ?side2 A95.out).mono ?_); (case side1 => repeat (first | (with_reducible first | exact HI0.out | apply IsS90.alloc | apply IsS90.drewN | apply IsS90.drew | apply IsS90.set_1) | exact HI0.out)); (case side2 => repeat (first | (with_reducible first | exact HB.out | apply below_alloc | apply pw_below_drewN | apply below_drew1 | refine below_set ?_ (IsS90.ge HI0.out)) | exact HB.out)); rintro e w97 ⟨rfl, hi, hb, hk⟩; refine ⟨_, rfl, ?_⟩; have n0_ := Aside0.mk (Kd.S_mono (Kd.S_keep (IsS90.apartS (show IsS90 w0 _ g s0_0 x1001_77 from by repeat (first | (with_reducible first | exact HI0.out | apply IsS90.alloc | apply IsS90.drewN | apply IsS90.drew | apply IsS90.set_1) | exact HI0.out)) (by (with_reducible repeat (first | apply Kd.S_alloc | apply Kd.S_drewN | apply Kd.S_drew)); exact HO_4.out) (by decide)) hk (fun _ h => h.2)) (fun _ h => h.1)); have n1_ := Aside0.mk (KeepBut.trans (by repeat (first | (with_reducible first | exact HK.out | apply KeepBut.set_ | apply keep_drewN | apply keep_drew | apply keep_alloc) | exact HK.out)) hk (.inl rfl)); have n2_ := Aside0.mk (hb); have n3_ := Aside0.mk (hi); clear HO_4; clear HK; clear HB; clear HI0; have HO_4 := n0_; have HK := n1_; have HB := n2_; have HI0 := n3_; clear n0_ n1_ n2_ n3_; (try clear hb); (try clear hb2); (try clear hk); (try clear hi)))
         (try go_simp)
         go_loopg [4] kj77 (fun kq v4 w' => ∃ (x4_4 : List (S41)) (x1001_4 : Int), Aside0 (spec_l9Draw.l5 kq x4_4 s0_0 x1001_4 = some (r1, r2)) ∧ Aside0 (kq ≤ kj77) ∧ Aside0 (Kd.S k41 41 w' w.heap.size (fun _ => True) v4 x4_4) ∧ Aside0 (IsS90 w0 w' g s0_0 x1001_4) ∧ Aside0 (KeepBut w w' g none) ∧ Aside0 (Below w0.heap.size w0 w'))
         case atStart => exact ⟨(x4_77), (t193), H', ⟨Nat.le_refl _⟩, ⟨by (with_reducible repeat (first | apply Kd.S_alloc | apply Kd.S_drewN | apply Kd.S_drew)); exact HO_4.out⟩, ⟨by repeat (first | (with_reducible first | exact HI0.out | apply IsS90.alloc | apply IsS90.drewN | apply IsS90.drew | apply IsS90.set_1) | exact HI0.out)⟩, ⟨by repeat (first | (with_reducible first | exact HK.out | apply KeepBut.set_ | apply keep_drewN | apply keep_drew | apply keep_alloc) | exact HK.out)⟩, ⟨by repeat (first | (with_reducible first | exact HB.out | apply below_alloc | apply pw_below_drewN | apply below_drew1 | refine below_set ?_ (IsS90.ge HI0.out)) | exact HB.out)⟩⟩
         case round =>
          clear H'
          try clear c1
          try clear p1
          try clear q1
          try clear hx1
          try clear c2
          try clear p2
          try clear c3
          try clear c4
          try clear c5
          try clear p5
          try clear q5
          try clear hx5
          try clear hf5
          try clear c6
          try clear c6b0
          try clear p6
          try clear c7
          try clear c8
          try clear p8
          try clear q8
          try clear c9
          try clear hx9
          try clear hf9
          try clear c12
          try clear c12b0
          try clear c13
          try clear p15
          try clear q15
          try clear hx15
          try clear p17
          try clear q17
          try clear hx17
          try clear c18
          try clear p18
          try clear q18
          try clear hx18
          try clear c19
          try clear c21
          try clear c21b0
          try clear c24
          try clear c24b0
          try clear c25
          try clear c27
          try clear c27b0
          try clear c29
          try clear c31
          try clear c32
          try clear c38
          try clear c42
          try clear c44
          try clear c46
          try clear c47
          try clear c48
          try clear c51
          try clear c51b0
          try clear c53
          try clear c53b0
          try clear c54
          try clear c54b0
          try clear c55
          try clear c55b0
          try clear c56
          try clear c56b0
          try clear c57
          try clear c57b0
          try clear p58
          try clear q58
          try clear hx58
          try clear hf58
          try clear p59
          try clear q59
          try clear hx59
          try clear hf59
          try clear p64
          try clear c67
          try clear c74
          try clear c79
          try clear c81
          try clear c81b0
          try clear c82
          try clear c82b0
          try clear c84
          try clear p85
          try clear q85
          try clear c90
          try clear c92
          try clear hx92
          try clear hf92
          try clear c96
          try clear hx150_0
          try clear hx175_0
          try clear hx176_0
          try clear hx177_0
          try clear hx178_0
          try clear hx185_0
          try clear hx185_1
          try clear hx58_0
          try clear hx59_0
          try clear hx92_0
          try clear p1
          try clear p15
          try clear p150
          try clear p17
          try clear p175
          try clear p176
          try clear p177
          try clear p178
          try clear p18
          try clear p185
          try clear p2
          try clear p5
          try clear p58
          try clear p59
          try clear p6
          try clear p64
          try clear p8
          try clear p85
          try clear q1
          try clear q15
          try clear q150
          try clear q17
          try clear q175
          try clear q176
          try clear q177
          try clear q178
          try clear q18
          try clear q185
          try clear q5
          try clear q58
          try clear q59
          try clear q8
          try clear q85
          obtain ⟨x4_4, x1001_4, HA, HK4, HO_4, HI0, HK, HB⟩ := hrel
          cases gk with
          | zero => exact absurd HA.out (by simp [spec_l9Draw.l5])
          | succ k4 =>
           have H := HA.out
           clear HA
           simp only [spec_l9Draw.l5] at H
           replace H := Option.bind_eq_some_iff.mp H
           obtain ⟨⟨t194, t195⟩, A980, H⟩ := H
           replace H : (if (x4_4.length : Int) < (wrap64 (200 + t194)) then (if x4_4.length < 2932031007402 then (spec_l9Draw.l5 k4 (x4_4 ++ [(⟨(([wrap64 ((x4_4.length : Int) - 1)] : List Int)), ([] : List (S48))⟩ : S41)]) s0_0 t195) else (none)) else (some (x4_4, t195))) = some (r1, r2) := H
           have A98 := Aside0.mk A980
           clear A980
           by_cases c99 : (x4_4.length : Int) < (wrap64 (200 + t194))
           ·rw [if_pos c99] at H
            have c99b0 : decide ((x4_4.length : Int) < (wrap64 (200 + t194))) = true := decide_eq_true c99
            (try simp only [hl6_5] at c99b0)
            clear c99
            obtain ⟨y196, hy196⟩ : ∃ y_ : List Int, y_ = (([wrap64 ((x4_4.length : Int) - 1)] : List Int)) := ⟨_, rfl⟩
            replace H : (if x4_4.length < 2932031007402 then (spec_l9Draw.l5 k4 (x4_4 ++ [(⟨y196, ([] : List (S48))⟩ : S41)]) s0_0 t195) else (none)) = some (r1, r2) := by first | (rw [hy196]; with_reducible exact H) | (have H2_ := (Option.bind_some _ _).symm.trans H; rw [hy196]; with_reducible exact H2_) | (have H2_ := (Option.bind_some _ _).symm.trans H; with_reducible exact H2_) | with_reducible exact H | (rw [hy196]; exact H) | exact H
            have Ny196 := Aside0.mk hy196
            clear hy196
            by_cases c100 : x4_4.length < 2932031007402
            ·rw [if_pos c100] at H
             have LMc100 := Aside0.mk c100
             clear c100
             obtain ⟨y199, hy199⟩ : ∃ y_ : List (S41), y_ = (x4_4 ++ [(⟨y196, ([] : List (S48))⟩ : S41)]) := ⟨_, rfl⟩
             replace H : (spec_l9Draw.l5 k4 y199 s0_0 t195) = some (r1, r2) := by first | (rw [hy199]; with_reducible exact H) | (have H2_ := (Option.bind_some _ _).symm.trans H; rw [hy199]; with_reducible exact H2_) | (have H2_ := (Option.bind_some _ _).symm.trans H; with_reducible exact H2_) | with_reducible exact H | (rw [hy199]; exact H) | exact H
             have Ny199 := Aside0.mk hy199
             clear hy199
             have H' := Aside0.mk H
             clear H
             obtain ⟨Ao101, co101, eo101⟩ := Kd.S_slice HO_4.out
             subst eo101
             go_wp2_with (first | ((with_reducible refine gate_callee (f := 46) rfl ?_); refine goesL_ (some 156) rfl rfl Try.func46 (by kernel_rfl) rfl #[.pointer (some ⟨g, 0, none⟩), .int .i64 2] rfl (by (try simp only [List.map_toArray, List.map_cons, List.map_nil]); first | done | rfl | (simp only [List.length_drop, List.length_take]; rfl)) ?_; (with_reducible refine (spec_l1Rd_below.calls g s0_0 x1001_4 2 t194 t195 w0 _ ?side1 ?side2 A98.out).mono ?_); (case side1 => repeat (first | (with_reducible first | exact HI0.out | apply IsS90.alloc | apply IsS90.drewN | apply IsS90.drew | apply IsS90.set_1) | exact HI0.out)); (case side2 => repeat (first | (with_reducible first | exact HB.out | apply below_alloc | apply pw_below_drewN | apply below_drew1 | refine below_set ?_ (IsS90.ge HI0.out)) | exact HB.out)); rintro e w102 ⟨rfl, hi, hb, hk⟩; refine ⟨_, rfl, ?_⟩; have n0_ := Aside0.mk (Kd.S_mono (Kd.S_keep (IsS90.apartS (show IsS90 w0 _ g s0_0 x1001_4 from by repeat (first | (with_reducible first | exact HI0.out | apply IsS90.alloc | apply IsS90.drewN | apply IsS90.drew | apply IsS90.set_1) | exact HI0.out)) (by (with_reducible repeat (first | apply Kd.S_alloc | apply Kd.S_drewN | apply Kd.S_drew)); exact HO_4.out) (by decide)) hk (fun _ h => h.2)) (fun _ h => h.1)); have n1_ := Aside0.mk (KeepBut.trans (by repeat (first | (with_reducible first | exact HK.out | apply KeepBut.set_ | apply keep_drewN | apply keep_drew | apply keep_alloc) | exact HK.out)) hk (.inl rfl)); have n2_ := Aside0.mk (hb); have n3_ := Aside0.mk (hi); clear HO_4; clear HK; clear HB; clear HI0; have HO_4 := n0_; have HK := n1_; have HB := n2_; have HI0 := n3_; clear n0_ n1_ n2_ n3_; (try clear hb); (try clear hb2); (try clear hk); (try clear hi)) | ((with_reducible refine gate_dst (N := 163) rfl ?_); (try (refine gate_guard (by rfl) ?_; dsimp only)); refine Kd.R_lit (Kd.int .i64) _ 2 ?hg (N := 163) ?hd (xs := ([wrap64 ((x4_4.length : Int) - 1)] : List Int)) (inner := [.int .i64 (wrap64 ((x4_4.length : Int) - 1))]) (ok := fun _ => True) (okp := fun _ => True) ?hr ?hp (fun _ hk => hk) trivial (Below.refl _ _) (Nat.le_refl _) (by simp) ?_; (case hd => rfl); (case hg => rfl); (case hr => first | (go_simp; done) | (go_simp; rfl)); (case hp => exact (Reps.one (show Kd.M (Kd.int .i64) _ _ _ (wrap64 ((x4_4.length : Int) - 1)) [.int .i64 (wrap64 ((x4_4.length : Int) - 1))] from rfl) (Reps.none _ _))); intro v197 w103 ho104 hb hg_ hnew_; clear hg_ hnew_; (first | rw [← Ny196.out] at ho104 | (simp only [Int.reduceToNat] at ho104; rw [← Ny196.out] at ho104)); have n0_ := Aside0.mk (Kd.S_elder' (by (with_reducible repeat (first | apply Kd.S_alloc | apply Kd.S_drewN | apply Kd.S_drew)); exact HO_4.out) (Kd.R_base ho104) hb); have n1_ := Aside0.mk (Kd.R_lower ho104 (keep_size (w := w) (g := g) (row := none) (by repeat (first | (with_reducible first | exact HK.out | apply KeepBut.set_ | apply keep_drewN | apply keep_drew | apply keep_alloc) | exact HK.out)))); have n2_ := Aside0.mk (IsS90.below (by repeat (first | (with_reducible first | exact HI0.out | apply IsS90.alloc | apply IsS90.drewN | apply IsS90.drew | apply IsS90.set_1) | exact HI0.out)) hb); have n3_ := Aside0.mk (KeepBut.trans (by repeat (first | (with_reducible first | exact HK.out | apply KeepBut.set_ | apply keep_drewN | apply keep_drew | apply keep_alloc) | exact HK.out)) (KeepBut.of_below hb g none) (.inl rfl)); have n4_ := Aside0.mk (below_step (by repeat (first | (with_reducible first | exact HB.out | apply below_alloc | apply pw_below_drewN | apply below_drew1 | refine below_set ?_ (IsS90.ge HI0.out)) | exact HB.out)) hb); clear HO_4; clear HI0; clear HK; clear HB; have HO_4 := n0_; have HO198 := n1_; have HI0 := n2_; have HK := n3_; have HB := n4_; clear n0_ n1_ n2_ n3_ n4_; clear hb ho104; obtain ⟨Ao105, co105, eo105⟩ := Kd.R_slice HO198.out; subst eo105) | ((with_reducible refine gate_builtin (b := .append) (xs := #[.tmp 159, .tmp 165]) rfl ?_); (try (refine gate_guard (by rfl) ?_; dsimp only)); at_builtin; refine Kd.S_append k41 w.heap.size rfl (.tmp 159) (.tmp 165) 25 41 (.agg #[(.slice none 0 0), (.slice none 0 0)]) 48 rfl Try.underlying25 info41 rfl (by decide) (by omega) (.slice Ao101 x4_4.length co101) x4_4 (⟨y196, ([] : List (S48))⟩ : S41) [.slice Ao105 y196.length co105, .slice none 0 0] (fun _ => True) (fun k_ => some k_ = (.slice Ao105 y196.length co105 : Value).ownBlock) rfl rfl ?aP (fun k_ hk_ => ((Kd.R_mono (ok' := fun k_ => ((fun _ => True)) k_ ∧ some k_ ≠ (.slice Ao101 x4_4.length co101 : Value).ownBlock) (Kd.R_apart' (HO198.out) (Kd.S_typed HO_4.out) (by decide)) (fun k_ hk => ⟨trivial, hk.2⟩))).1 k_ hk_.symm) ?aF ?aO (Below.refl _ _) ?aS ?aL ?_; (case aP => exact k41_mkM _ _ _ (⟨y196, ([] : List (S48))⟩ : S41) (Kd.R_mono (Kd.R_tight rfl (Kd.R_mono (ok' := fun k_ => ((fun _ => True)) k_ ∧ some k_ ≠ (.slice Ao101 x4_4.length co101 : Value).ownBlock) (Kd.R_apart' (HO198.out) (Kd.S_typed HO_4.out) (by decide)) (fun k_ hk => ⟨trivial, hk.2⟩))) (fun _ h_ => h_)) (Kd.R_nil _ _ _ _ _)); (case aF => exact (fun _ _ => trivial)); (case aO => exact (by (with_reducible repeat (first | apply Kd.S_alloc | apply Kd.S_drewN | apply Kd.S_drew)); exact Kd.S_mono HO_4.out (fun k_ hk => ⟨trivial, fun e_ => hk.2 e_⟩))); (case aS => exact (keep_size (w := w) (g := g) (row := none) (by repeat (first | (with_reducible first | exact HK.out | apply KeepBut.set_ | apply keep_drewN | apply keep_drew | apply keep_alloc) | exact HK.out)))); (case aL => have := LMc100.out; omega); intro v200 w106 ho hb hg hat; rw [← Ny199.out] at ho; have n0_ := Aside0.mk (IsS90.grown (by repeat (first | (with_reducible first | exact HI0.out | apply IsS90.alloc | apply IsS90.drewN | apply IsS90.drew | apply IsS90.set_1) | exact HI0.out)) hg (IsS90.own_neS HI0.out HO_4.out (by decide))); have n1_ := Aside0.mk (below_weaken (by repeat (first | (with_reducible first | exact HB.out | apply below_alloc | apply pw_below_drewN | apply below_drew1 | refine below_set ?_ (IsS90.ge HI0.out)) | exact HB.out)) HL.out hb); have n2_ := Aside0.mk (KeepBut.trans (by repeat (first | (with_reducible first | exact HK.out | apply KeepBut.set_ | apply keep_drewN | apply keep_drew | apply keep_alloc) | exact HK.out)) (KeepBut.of_grown hg g) (Kd.S_base2 HO_4.out)); have n3_ := Aside0.mk (ho); clear HI0; clear HB; clear HK; clear HO_4; clear HO198; have HI0 := n0_; have HB := n1_; have HK := n2_; have HO201 := n3_; clear n0_ n1_ n2_ n3_; clear ho hb hg hat))
             go_roundg k4
             case measure => have := HK1.out; have := HJ71.out; have := HJ77.out; have := HK4.out; omega
             case rel => exact ⟨(y199), (t195), H', ⟨by have := HK1.out; have := HJ71.out; have := HJ77.out; have := HK4.out; omega⟩, ⟨by (with_reducible repeat (first | apply Kd.S_alloc | apply Kd.S_drewN | apply Kd.S_drew)); exact HO201.out⟩, ⟨by repeat (first | (with_reducible first | exact HI0.out | apply IsS90.alloc | apply IsS90.drewN | apply IsS90.drew | apply IsS90.set_1) | exact HI0.out)⟩, ⟨by repeat (first | (with_reducible first | exact HK.out | apply KeepBut.set_ | apply keep_drewN | apply keep_drew | apply keep_alloc) | exact HK.out)⟩, ⟨by repeat (first | (with_reducible first | exact HB.out | apply below_alloc | apply pw_below_drewN | apply below_drew1 | refine below_set ?_ (IsS90.ge HI0.out)) | exact HB.out)⟩⟩
            ·rw [if_neg c100] at H
             exact absurd H (by simp)
           ·rw [if_neg c99] at H
            have c99b0 : decide ((x4_4.length : Int) < (wrap64 (200 + t194))) = false := decide_eq_false c99
            (try simp only [hl6_5] at c99b0)
            clear c99
            simp only [Option.some.injEq, Prod.mk.injEq] at H
            obtain ⟨rfl, rfl⟩ := H
            obtain ⟨Ao107, co107, eo107⟩ := Kd.S_slice HO_4.out
            subst eo107
            go_wp2_with (first | ((with_reducible refine gate_callee (f := 46) rfl ?_); refine goesL_ (some 156) rfl rfl Try.func46 (by kernel_rfl) rfl #[.pointer (some ⟨g, 0, none⟩), .int .i64 2] rfl (by (try simp only [List.map_toArray, List.map_cons, List.map_nil]); first | done | rfl | (simp only [List.length_drop, List.length_take]; rfl)) ?_; (with_reducible refine (spec_l1Rd_below.calls g s0_0 x1001_4 2 t194 t195 w0 _ ?side1 ?side2 A98.out).mono ?_); (case side1 => repeat (first | (with_reducible first | exact HI0.out | apply IsS90.alloc | apply IsS90.drewN | apply IsS90.drew | apply IsS90.set_1) | exact HI0.out)); (case side2 => repeat (first | (with_reducible first | exact HB.out | apply below_alloc | apply pw_below_drewN | apply below_drew1 | refine below_set ?_ (IsS90.ge HI0.out)) | exact HB.out)); rintro e w108 ⟨rfl, hi, hb, hk⟩; refine ⟨_, rfl, ?_⟩; have n0_ := Aside0.mk (Kd.S_mono (Kd.S_keep (IsS90.apartS (show IsS90 w0 _ g s0_0 x1001_4 from by repeat (first | (with_reducible first | exact HI0.out | apply IsS90.alloc | apply IsS90.drewN | apply IsS90.drew | apply IsS90.set_1) | exact HI0.out)) (by (with_reducible repeat (first | apply Kd.S_alloc | apply Kd.S_drewN | apply Kd.S_drew)); exact HO_4.out) (by decide)) hk (fun _ h => h.2)) (fun _ h => h.1)); have n1_ := Aside0.mk (KeepBut.trans (by repeat (first | (with_reducible first | exact HK.out | apply KeepBut.set_ | apply keep_drewN | apply keep_drew | apply keep_alloc) | exact HK.out)) hk (.inl rfl)); have n2_ := Aside0.mk (hb); have n3_ := Aside0.mk (hi); clear HO_4; clear HK; clear HB; clear HI0; have HO_4 := n0_; have HK := n1_; have HB := n2_; have HI0 := n3_; clear n0_ n1_ n2_ n3_; (try clear hb); (try clear hb2); (try clear hk); (try clear hi)))
            go_ret
            exact ⟨_, by first | rfl | (simp [errW_none, errW_some] <;> rfl) | (simp [*, errW_none, errW_some] <;> rfl), by (with_reducible repeat (first | apply Kd.S_alloc | apply Kd.S_drewN | apply Kd.S_drew)); exact HO_4.out, by repeat (first | (with_reducible first | exact HI0.out | apply IsS90.alloc | apply IsS90.drewN | apply IsS90.drew | apply IsS90.set_1) | exact HI0.out), by repeat (first | (with_reducible first | exact HB.out | apply below_alloc | apply pw_below_drewN | apply below_drew1 | refine below_set ?_ (IsS90.ge HI0.out)) | exact HB.out), by repeat (first | (with_reducible first | exact HK.out | apply KeepBut.set_ | apply keep_drewN | apply keep_drew | apply keep_alloc) | exact HK.out)⟩
        ·replace c96 := Bool.eq_false_iff.mpr c96
         subst c96
         have H1 : (some (x4_77, t193)) = some (r1, r2) := by rw [if_neg (show ¬ (false = true) by decide)] at H; exact H
         clear H
         have H := H1
         clear H1
         simp only [Option.some.injEq, Prod.mk.injEq] at H
         obtain ⟨rfl, rfl⟩ := H
         go_wp2_with (first | ((with_reducible refine gate_callee (f := 47) rfl ?_); refine goesL_ (some 152) rfl rfl Try.func47 (by kernel_rfl) rfl #[.pointer (some ⟨g, 0, none⟩), .int .i64 60] rfl (by (try simp only [List.map_toArray, List.map_cons, List.map_nil]); first | done | rfl | (simp only [List.length_drop, List.length_take]; rfl)) ?_; (with_reducible refine (spec_l1Rd_once.calls g s0_0 x1001_77 60 false t193 w0 _ ?side1 ?side2 A95.out).mono ?_); (case side1 => repeat (first | (with_reducible first | exact HI0.out | apply IsS90.alloc | apply IsS90.drewN | apply IsS90.drew | apply IsS90.set_1) | exact HI0.out)); (case side2 => repeat (first | (with_reducible first | exact HB.out | apply below_alloc | apply pw_below_drewN | apply below_drew1 | refine below_set ?_ (IsS90.ge HI0.out)) | exact HB.out)); rintro e w109 ⟨rfl, hi, hb, hk⟩; refine ⟨_, rfl, ?_⟩; have n0_ := Aside0.mk (Kd.S_mono (Kd.S_keep (IsS90.apartS (show IsS90 w0 _ g s0_0 x1001_77 from by repeat (first | (with_reducible first | exact HI0.out | apply IsS90.alloc | apply IsS90.drewN | apply IsS90.drew | apply IsS90.set_1) | exact HI0.out)) (by (with_reducible repeat (first | apply Kd.S_alloc | apply Kd.S_drewN | apply Kd.S_drew)); exact HO_4.out) (by decide)) hk (fun _ h => h.2)) (fun _ h => h.1)); have n1_ := Aside0.mk (KeepBut.trans (by repeat (first | (with_reducible first | exact HK.out | apply KeepBut.set_ | apply keep_drewN | apply keep_drew | apply keep_alloc) | exact HK.out)) hk (.inl rfl)); have n2_ := Aside0.mk (hb); have n3_ := Aside0.mk (hi); clear HO_4; clear HK; clear HB; clear HI0; have HO_4 := n0_; have HK := n1_; have HB := n2_; have HI0 := n3_; clear n0_ n1_ n2_ n3_; (try clear hb); (try clear hb2); (try clear hk); (try clear hi)))
         go_ret
         exact ⟨_, by first | rfl | (simp [errW_none, errW_some] <;> rfl) | (simp [*, errW_none, errW_some] <;> rfl), by (with_reducible repeat (first | apply Kd.S_alloc | apply Kd.S_drewN | apply Kd.S_drew)); exact HO_4.out, by repeat (first | (with_reducible first | exact HI0.out | apply IsS90.alloc | apply IsS90.drewN | apply IsS90.drew | apply IsS90.set_1) | exact HI0.out), by repeat (first | (with_reducible first | exact HB.out | apply below_alloc | apply pw_below_drewN | apply below_drew1 | refine below_set ?_ (IsS90.ge HI0.out)) | exact HB.out), by repeat (first | (with_reducible first | exact HK.out | apply KeepBut.set_ | apply keep_drewN | apply keep_drew | apply keep_alloc) | exact HK.out)⟩

end Go.Proofs.Ytkclfbmgnhmkhaa.PC
