/- What TextCut and TextLen of the program come to, over the contracts of TextOk and SliceList and the shelf's of strings.Builder. No condition beyond those of the theorems. -/
import Derived.Test.YtfgiodolgmfdoaaDoorGRune
import Derived.Test.YtfgiodolgmfdoaaDoorGSlice
import Derived.Test.YtfgiodolgmfdoaaDoorShelfB
import Derived.Test.YtfgiodolgmfdoaaDoorShelfI
namespace Go.Proofs.YtfgiodolgmfdoaaDoor.PT
open Go.RowKit Go.Shelf Go.Proofs.YtfgiodolgmfdoaaDoorW.PrintWords Go.Proofs.YtfgiodolgmfdoaaDoorW.PrintLast Go.Proofs.YtfgiodolgmfdoaaDoorW.PrintMore
set_option linter.unusedVariables false
set_option linter.unusedSimpArgs false

theorem X168 : Builder.Extra Tryd.prog Tryd.lays168_ren := { sizeBuilder := by kernel_rfl, liesBuilder := by kernel_rfl, t5 := Tryd.underlying5, a5 := Tryd.isAgg5, z5 := Tryd.sizeOf5, v5 := Tryd.zeroValue5, infoByte := by kernel_rfl, cellsByte := by kernel_rfl, sizeByte := by kernel_rfl, neB5 := by decide }
theorem X169 : Builder.Extra Tryd.prog Tryd.lays169_ren := { sizeBuilder := by kernel_rfl, liesBuilder := by kernel_rfl, t5 := Tryd.underlying5, a5 := Tryd.isAgg5, z5 := Tryd.sizeOf5, v5 := Tryd.zeroValue5, infoByte := by kernel_rfl, cellsByte := by kernel_rfl, sizeByte := by kernel_rfl, neB5 := by decide }

/-- A builder in the block b whose bytes are l. -/
def BIs (B b : Nat) (l : List UInt8) (w : World) : Prop := Lib.IsBuilderF 83 5 B b (Lib.byteCells l) w

theorem writeRune_calls (B b : Nat) (l : List UInt8) (r : Int) (hr : okR r) (w : World) (h : BIs B b l w) (hl : l.length ≤ 1000000) (hBw : B ≤ w.heap.size) :
    Calls Tryd.prog 68 #[.pointer (some ⟨b, 0, none⟩), .int .i32 r] w fun e w' => ∃ v, e = .returned v ∧ BIs B b (l ++ Lib.encodeRune r) w' ∧ Below B w w' ∧ Lib.OthersKept 5 (some b) w w' := by
  have hr' := hr
  unfold okR at hr'
  refine (Any.Builder_WriteRune_k Tryd.lays168 X168 B b (Lib.byteCells l) r (by omega) (by omega) w h (by rw [Lib.byteCells_length]; omega) hBw).mono ?_
  rintro e w' ⟨rfl, h1, h2, h3⟩
  refine ⟨_, rfl, ?_, h2, h3⟩
  unfold BIs
  rw [Lib.byteCells_append, Lib.byteCells_encodeRune]
  exact Or.inr h1

theorem string_calls (B b : Nat) (l : List UInt8) (w : World) (h : BIs B b l w) (hBw : B ≤ w.heap.size) :
    Calls Tryd.prog 69 #[.pointer (some ⟨b, 0, none⟩)] w fun e w' => e = .returned (.string ⟨l.toArray⟩) ∧ Below B w w' := by
  refine (Any.Builder_String_any_k Tryd.lays169 X169 B b l w h hBw).mono ?_
  rintro e w' ⟨rfl, h1, h2, h3⟩
  exact ⟨rfl, h2⟩

theorem RuneAt.below {B : Nat} {W W' : World} {g cap : Nat} {R : List Int} (h : RuneAt W g cap R) (hg : g < B) (hb : Below B W W') : RuneAt W' g cap R := by
  obtain ⟨cs, h1, h2⟩ := h
  exact ⟨cs, (hb.block g hg).trans h1, h2⟩

/-- What comes of a text cut. -/
def cutM (s : ByteArray) (h1 : Bool) (a1 : Int) (h2 : Bool) (a2 : Int) (h3 : Bool) (a3 : Int) : ByteArray × Int :=
  if okB s = true then
    (⟨(enAll ((sliceList (runesFrom s s.size 0).length h1 a1 h2 a2 h3 a3).1.map fun i => (runesFrom s s.size 0).getD i.toNat 0)).toArray⟩, (sliceList (runesFrom s s.size 0).length h1 a1 h2 a2 h3 a3).2)
  else (⟨#[]⟩, 1)

set_option maxHeartbeats 4000000 in
set_option maxRecDepth 1000000 in
theorem implCut_calls (s : ByteArray) (h1 : Bool) (a1 : Int) (h2 : Bool) (a2 : Int) (h3 : Bool) (a3 : Int) (w : World) (hs0 : s.size ≤ 1048576) (ha3 : -9223372036854775808 ≤ a3 ∧ a3 ≤ 9223372036854775807) (hT : TM w)
    (hrg : ∀ n : Nat, n ≤ 16384 → (sliceList n h1 a1 h2 a2 h3 a3).1.length ≤ 20000 ∧ ∀ i ∈ (sliceList n h1 a1 h2 a2 h3 a3).1, 0 ≤ i ∧ i < n) :
    Calls Tryd.prog 30 #[.string s, .agg #[.bool h1, .int .i64 a1], .agg #[.bool h2, .int .i64 a2], .agg #[.bool h3, .int .i64 a3]] w fun e w' => e = .returned (.tuple #[.string (cutM s h1 a1 h2 a2 h3 a3).1, .int .i64 (cutM s h1 a1 h2 a2 h3 a3).2]) ∧ Below w.heap.size w w' := by
  have C0 := Aside0.mk (fun (w1 : World) (hb : Below w.heap.size w w1) => implOk_calls s w1 (by omega) (hT.t.below hb))
  clear hT
  obtain ⟨RES, hR⟩ : ∃ RES, cutM s h1 a1 h2 a2 h3 a3 = RES := ⟨_, rfl⟩
  rw [hR]
  unfold cutM at hR
  have hz0 := fun h => okB_size (s := s) h
  have hz2 := fun h => okB_of (s := s) h
  generalize okB s = V0 at *
  cases V0 with
  | false =>
    rw [if_neg (by simp)] at hR
    subst hR
    clear hz0 hz2 hrg
    go_enter Tryd.func30, Tryd.ntmps30
    go_wp2_with fail
    refine (C0.out _ (by repeat (first | exact Below.refl _ _ | apply below_alloc))).mono ?_
    rintro e w1 ⟨rfl, hb⟩
    have HB := Aside0.mk (below_step (by repeat (first | exact Below.refl w.heap.size w | apply below_alloc)) hb)
    clear hb
    go_wp2
    go_ret2
    exact ⟨rfl, HB.out⟩
  | true =>
    have hz0 := hz0 rfl
    obtain ⟨R, hO⟩ := hz2 rfl
    have hOr := hO.runes
    have hRl := enAll_len R hO.ok
    rw [← hO.size] at hRl
    have KC := Aside0.mk (fun W => runes_conv W s hz0)
    have KA := Aside0.mk (fun W => runeWorld_at W s)
    rw [if_pos rfl, hOr] at hR
    rw [hOr] at KC KA
    have HOK := Aside0.mk hO.ok
    clear hOr hO hz2
    obtain ⟨n, hn⟩ : ∃ n, R.length = n := ⟨_, rfl⟩
    have HN := Aside0.mk hn
    rw [hn] at hR hRl KC
    clear hn
    obtain ⟨hL1, hL2⟩ := hrg n (by omega)
    have CS := Aside0.mk (fun (w1 : World) => impl_SliceList.calls (n : Int) h1 a1 h2 a2 h3 a3 (sliceList n h1 a1 h2 a2 h3 a3).1 (sliceList n h1 a1 h2 a2 h3 a3).2 w1 (by unfold impl_SliceList.f; rw [if_pos ha3]))
    clear hrg ha3
    generalize (sliceList n h1 a1 h2 a2 h3 a3).1 = L at *
    generalize (sliceList n h1 a1 h2 a2 h3 a3).2 = E at *
    have HL2 := Aside0.mk hL2
    have HRES := Aside0.mk hR
    clear hL2 hR
    go_enter Tryd.func30, Tryd.ntmps30
    go_wp2_with fail
    refine (C0.out _ (by repeat (first | exact Below.refl _ _ | apply below_alloc))).mono ?_
    rintro e w1 ⟨rfl, hb⟩
    have HB := Aside0.mk (below_step (by repeat (first | exact Below.refl w.heap.size w | apply below_alloc)) hb)
    have x1 : w1.cell? ⟨w.heap.size, 0, none⟩ = some (.bool h1) := pw_cell_below hb (by go_simp)
    have x2 : w1.cell? ⟨w.heap.size, 1, none⟩ = some (.int .i64 a1) := pw_cell_below hb (by go_simp)
    have x3 : w1.cell? ⟨w.heap.size + 1, 0, none⟩ = some (.bool h2) := pw_cell_below hb (by go_simp)
    have x4 : w1.cell? ⟨w.heap.size + 1, 1, none⟩ = some (.int .i64 a2) := pw_cell_below hb (by go_simp)
    have x5 : w1.cell? ⟨w.heap.size + 2, 0, none⟩ = some (.bool h3) := pw_cell_below hb (by go_simp)
    have x6 : w1.cell? ⟨w.heap.size + 2, 1, none⟩ = some (.int .i64 a3) := pw_cell_below hb (by go_simp)
    have kc := KC.out w1
    have ka := KA.out w1
    have b1 := Below.refl w1.heap.size w1
    have b3 := runeWorld_below b1 s
    have hsz3 := runeWorld_size w1 s
    have hsz1 : w.heap.size + 3 ≤ w1.heap.size := by
      have := hb.size
      simp at this
      omega
    have HB3 := Aside0.mk (runeWorld_below HB.out s)
    generalize runeWorld w1 s = w3 at *
    generalize runeCap w1 s = cap at *
    have y1 := pw_cell_below b3 x1
    have y2 := pw_cell_below b3 x2
    have y3 := pw_cell_below b3 x3
    have y4 := pw_cell_below b3 x4
    have y5 := pw_cell_below b3 x5
    have y6 := pw_cell_below b3 x6
    obtain ⟨g, hg⟩ : ∃ g, w1.heap.size = g := ⟨_, rfl⟩
    rw [hg] at kc ka hsz3 hsz1
    have KA3 := Aside0.mk ka
    clear ka hg b1 b3 hb KA KC C0 x1 x2 x3 x4 x5 x6
    go_wp2_with fail
    refine (CS.out w3).mono ?_
    rintro e w4 ⟨v0, rfl, hR0, hb4⟩
    obtain ⟨A, cL, rfl, hcL, hC4⟩ := Kd.R_reads hR0
    have HA4 := Aside0.mk (KA3.out.below (B := w3.heap.size) (by omega) hb4)
    have HC4 := Aside0.mk hC4
    have HB4 := Aside0.mk (below_step HB3.out hb4)
    have hsz4 : g < w4.heap.size := by have := hb4.size; omega
    have hwsz : w.heap.size ≤ w4.heap.size := by omega
    clear hR0 hC4 hb4 HB3 KA3 CS y1 y2 y3 y4 y5 y6 kc hsz3 HB
    obtain ⟨B, hB⟩ : ∃ B, w4.heap.size = B := ⟨_, rfl⟩
    have HBI := Aside0.mk (show BIs B B [] (w4.alloc (.cells #[.pointer none, .slice none 0 0] 83)) by
      rw [← hB]
      exact Lib.IsBuilderF.of (Lib.fresh_isBuilder 83 5 w4))
    have HBB0 := Aside0.mk (Below.alloc (Below.refl w4.heap.size w4) (Nat.le_refl _) (.cells #[.pointer none, .slice none 0 0] 83))
    have HBN := Aside0.mk (below_alloc HB4.out (.cells #[.pointer none, .slice none 0 0] 83))
    have hszN : (w4.alloc (.cells #[.pointer none, .slice none 0 0] 83)).heap.size = B + 1 := by rw [← hB]; simp
    rw [hB] at hsz4 hwsz
    clear HB4
    go_wp2_with fail
    generalize w4.alloc (.cells #[.pointer none, .slice none 0 0] 83) = w5 at *
    have hlen : L.length ≤ 20000 := hL1
    obtain ⟨m, hm⟩ : ∃ m, L.length = m := ⟨_, rfl⟩
    have HM := Aside0.mk hm
    have HEQ := Aside0.mk hB
    rw [hm] at hlen HC4 ⊢
    clear hm hL1 hB
    go_loopg [32] m (fun kq v32 w' => ∃ i : Nat, v32 = .int .i64 i ∧ i + kq = m ∧ Aside0 (BIs B B (enAll ((L.take i).map fun i => R.getD i.toNat 0)) w') ∧ Aside0 (Below w.heap.size w w') ∧ B < w'.heap.size ∧ Aside0 (Below w4.heap.size w4 w'))
    case atStart => exact ⟨0, rfl, by omega, HBI, HBN, by omega, HBB0⟩
    case round =>
      clear HBI HBN HBB0 hszN
      obtain ⟨i, rfl, hik, HI, HB, hBz, HBB⟩ := hrel
      have HOK2 : Aside0 (∀ r ∈ (L.take i).map fun i => R.getD i.toNat 0, okR r) := ⟨fun r hr => by
        obtain ⟨q, hq, rfl⟩ := List.mem_map.1 hr
        have h2 := HL2.out q (List.mem_of_mem_take hq)
        have h3 := HN.out
        have h4 : q.toNat < R.length := by omega
        rw [List.getD_eq_getElem?_getD, List.getElem?_eq_getElem h4]
        exact HOK.out _ (List.getElem_mem h4)⟩
      have HLE : Aside0 ((enAll ((L.take i).map fun i => R.getD i.toNat 0)).length ≤ 1000000) := ⟨by
        have h1 := enAll_le _ HOK2.out
        rw [List.length_map, List.length_take] at h1
        have := HM.out
        omega⟩
      by_cases hi : i < m
      · obtain ⟨kq, rfl⟩ : ∃ q, gk = q + 1 := ⟨gk - 1, by omega⟩
        obtain ⟨ad, rfl, hcell⟩ := Kd.at_int HC4.out (i : Int) (by omega) (by omega)
        rw [Int.toNat_natCast] at hcell
        have hiL : i < L.length := by rw [HM.out]; exact hi
        have hrd : rd L (i : Int) = L[i] := by simp [rd, hiL]
        have hq2 := HL2.out L[i] (List.getElem_mem hiL)
        rw [hrd] at hcell
        obtain ⟨Q, hQ⟩ : ∃ Q : Nat, L[i] = (Q : Int) := ⟨L[i].toNat, by omega⟩
        have HT : Aside0 ((L.take (i + 1)).map (fun i => R.getD i.toNat 0) = (L.take i).map (fun i => R.getD i.toNat 0) ++ [R.getD Q 0]) := ⟨by
          rw [List.take_add_one, List.getElem?_eq_getElem hiL, List.map_append, hQ]
          rfl⟩
        rw [hQ] at hcell hq2
        have hQR : Q < R.length := by have := HN.out; omega
        have x1 := pw_cell_below HBB.out hcell
        have x2 := pw_cell_below HBB.out (HA4.out.cell Q hQR)
        have hokq : okR (R.getD Q 0) := by
          rw [List.getD_eq_getElem?_getD, List.getElem?_eq_getElem hQR]
          exact HOK.out _ (List.getElem_mem hQR)
        generalize R.getD Q 0 = r at *
        have cW := Aside0.mk (writeRune_calls B B _ r hokq wr HI.out HLE.out (by omega))
        have hQn : (Q : Int) < n := by omega
        clear hcell hrd hQ hokq hq2 hQR hiL
        go_wp2_with fail
        refine cW.out.mono ?_
        rintro e w6 ⟨v6, rfl, hI6, hb6, hk6⟩
        have HI6 := Aside0.mk (show BIs B B (enAll ((L.take (i + 1)).map fun i => R.getD i.toNat 0)) w6 by
          rw [HT.out, enAll_append]
          simpa [enAll] using hI6)
        have HB6 := Aside0.mk (HB.out.trans (hb6.mono hwsz))
        have HBB6 := Aside0.mk (HBB.out.trans (by rw [HEQ.out]; exact hb6))
        have hz6 : B < w6.heap.size := by have := hb6.size; omega
        clear hI6 hb6 hk6 cW HT x1 x2
        go_wp2
        go_roundg kq
        case measure => omega
        case rel => exact ⟨i + 1, by first | rfl | simp, by omega, HI6, HB6, hz6, HBB6⟩
      · have hin : i = m := by omega
        subst hin
        have cS := Aside0.mk (string_calls B B _ wr HI.out (by omega))
        rw [List.take_of_length_le (by rw [HM.out]; exact Nat.le_refl _)] at cS
        go_wp2_with fail
        refine cS.out.mono ?_
        rintro e w6 ⟨rfl, hb6⟩
        have HB6 := Aside0.mk (HB.out.trans (hb6.mono hwsz))
        clear hb6 cS
        have e := HRES.out
        go_wp2
        go_ret2
        rw [← e]
        exact ⟨rfl, HB6.out⟩

theorem wf_range {x : Int} (h : (Lit.int .i64 x).wf = true) : -9223372036854775808 ≤ x ∧ x ≤ 9223372036854775807 := by
  simp only [Lit.wf, Bool.and_eq_true, decide_eq_true_eq] at h
  exact h

theorem steps_length (b s : Int) (d : Nat) : ∀ p, (steps b s d p).length ≤ d := by
  induction d with
  | zero => intro p; simp [steps]
  | succ d ih =>
    intro p
    simp only [steps]
    repeat' split
    all_goals simp
    all_goals exact ih _
theorem steps_up (b s : Int) (hs : 0 < s) (d : Nat) : ∀ p, ∀ i ∈ steps b s d p, p ≤ i ∧ i < b := by
  induction d with
  | zero => intro p i hi; simp [steps] at hi
  | succ d ih =>
    intro p i hi
    simp only [steps, if_pos hs] at hi
    split at hi
    · split at hi
      · simp at hi; omega
      · rcases List.mem_cons.1 hi with h | h
        · omega
        · have := ih _ i h; omega
    · simp at hi
theorem steps_down (b s : Int) (hs : ¬ 0 < s) (d : Nat) : ∀ p, ∀ i ∈ steps b s d p, i ≤ p + 0 * s ∧ b < i ∨ s = 0 ∨ (i ≤ p ∧ b < i) := by
  induction d with
  | zero => intro p i hi; simp [steps] at hi
  | succ d ih =>
    intro p i hi
    simp only [steps, if_neg hs] at hi
    split at hi
    · rcases List.mem_cons.1 hi with h | h
      · omega
      · have := ih _ i h; omega
    · simp at hi
theorem list_range (n : Nat) (h1 : Bool) (x1 : Int) (h2 : Bool) (x2 : Int) (h3 : Bool) (x3 : Int) (hn : n ≤ 16384) :
    (sliceList n h1 x1 h2 x2 h3 x3).1.length ≤ 20000 ∧ ∀ i ∈ (sliceList n h1 x1 h2 x2 h3 x3).1, 0 ≤ i ∧ i < n := by
  unfold sliceList
  rw [if_neg (by omega)]
  simp only
  generalize (if h3 = true then x3 else 1) = s
  by_cases h0 : s = 0
  · rw [if_pos h0]; simp
  rw [if_neg h0]
  by_cases hs : s < 0
  · rw [if_pos hs]
    refine ⟨steps_length _ _ _ _, fun i hi => ?_⟩
    have r1 := bnd_range n (-1) ((n : Int) - 1) h1 x1 ((n : Int) - 1) (by omega) (by omega) (by omega)
    have r2 := bnd_range n (-1) ((n : Int) - 1) h2 x2 (-1) (by omega) (by omega) (by omega)
    have := steps_down _ s (by omega) _ _ i hi
    omega
  · rw [if_neg hs]
    refine ⟨steps_length _ _ _ _, fun i hi => ?_⟩
    have r1 := bnd_range n 0 n h1 x1 0 (by omega) (by omega) (by omega)
    have r2 := bnd_range n 0 n h2 x2 n (by omega) (by omega) (by omega)
    have := steps_up _ s (by omega) _ _ i hi
    omega

def impl_TextCut.f (s : ByteArray) (h1 : Bool) (a1 : Int) (h2 : Bool) (a2 : Int) (h3 : Bool) (a3 : Int) : Option (ByteArray × Int) :=
  if s.size ≤ 1048576 ∧ -9223372036854775808 ≤ a3 ∧ a3 ≤ 9223372036854775807 then some (cutM s h1 a1 h2 a2 h3 a3) else none
theorem impl_TextCut.calls (a0 : ByteArray) (a1_0 : Bool) (a1_1 : Int) (a2_0 : Bool) (a2_1 : Int) (a3_0 : Bool) (a3_1 : Int) (r1 : ByteArray) (r2 : Int) (w : World) (h : impl_TextCut.f a0 a1_0 a1_1 a2_0 a2_1 a3_0 a3_1 = some (r1, r2)) (hT : TM w) :
    Calls Tryd.prog 30 #[.string a0, .agg #[.bool a1_0, .int .i64 a1_1], .agg #[.bool a2_0, .int .i64 a2_1], .agg #[.bool a3_0, .int .i64 a3_1]] w fun e w' => e = .returned (.tuple #[.string r1, .int .i64 r2]) ∧ Below w.heap.size w w' := by
  unfold impl_TextCut.f at h
  split at h
  case isFalse => simp at h
  rename_i hs
  have h := Option.some.inj h
  have hc := implCut_calls a0 a1_0 a1_1 a2_0 a2_1 a3_0 a3_1 w hs.1 hs.2 hT (fun n hn => list_range n a1_0 a1_1 a2_0 a2_1 a3_0 a3_1 hn)
  rw [h] at hc
  exact hc

def lenB (s : ByteArray) : Int := if okB s = true then (Lib.runeCount s : Int) else -1

set_option maxHeartbeats 1000000 in
set_option maxRecDepth 1000000 in
theorem implLen_calls (s : ByteArray) (w : World) (hs : s.size < 9223372036854775807) (hT : Tabs w) :
    Calls Tryd.prog 33 #[.string s] w fun e w' => e = .returned (.int .i64 (lenB s)) ∧ Below w.heap.size w w' := by
  have cO := implOk_calls s w (by omega) hT
  unfold lenB
  generalize okB s = V at cO ⊢
  cases V with
  | true =>
    rw [if_pos rfl]
    go_enter Tryd.func33, Tryd.ntmps33
    go_wp2_with fail
    refine cO.mono ?_
    rintro e w1 ⟨rfl, hb⟩
    have HB := Aside0.mk hb
    clear hb
    have cR : Calls Tryd.prog 66 #[.string s] w1 _ := Any.utf8_RuneCountInString Tryd.lays195 s w1 hs
    go_wp2_with fail
    refine cR.mono ?_
    rintro e w2 ⟨rfl, pos, rfl⟩
    go_wp2
    go_ret
    exact ⟨rfl, below_alloc HB.out _⟩
  | false =>
    rw [if_neg (by decide)]
    go_enter Tryd.func33, Tryd.ntmps33
    go_wp2_with fail
    refine cO.mono ?_
    rintro e w1 ⟨rfl, hb⟩
    go_wp2
    go_ret
    exact ⟨rfl, hb⟩
def impl_TextLen.f (s : ByteArray) : Option Int := if s.size ≤ 1048576 then some (lenB s) else none
theorem impl_TextLen.calls (a0 : ByteArray) (r1 : Int) (w : World) (h : impl_TextLen.f a0 = some r1) (hT : TM w) :
    Calls Tryd.prog 33 #[.string a0] w fun e w' => e = .returned (.int .i64 r1) ∧ Below w.heap.size w w' := by
  unfold impl_TextLen.f at h
  split at h
  case isFalse => simp at h
  have h := Option.some.inj h
  subst h
  exact implLen_calls a0 w (by omega) hT.t

end Go.Proofs.YtfgiodolgmfdoaaDoor.PT
