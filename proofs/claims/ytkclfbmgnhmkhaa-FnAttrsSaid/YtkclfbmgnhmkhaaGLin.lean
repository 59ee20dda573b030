/- What ylines of the program comes to. No condition beyond those of the theorems. -/
import Derived.Test.YtkclfbmgnhmkhaaLinM
namespace Go.Proofs.Ytkclfbmgnhmkhaa.PC
open Go.RowKit Go.Proofs.YtkclfbmgnhmkhaaW.PrintWords Go.Proofs.YtkclfbmgnhmkhaaW.PrintLast Go.Proofs.YtkclfbmgnhmkhaaW.PrintMore
set_option linter.unusedVariables false
set_option linter.unusedSimpArgs false

theorem info37 : (Try.prog.info? 37).map (fun i => (i.zero, i.size, i.bytes)) = some (some (.slice none 0 0), 1, 24) := by kernel_rfl
theorem info2' : (Try.prog.info? 2).map (fun i => (i.zero, i.size, i.bytes)) = some (some (.int .i64 0), 1, 8) := by kernel_rfl
abbrev kI : Kd Int := Kd.int .i64

theorem eqlNil (w : World) (d : Nat) (t e : TypeId) (a : Option Addr) (l c : Nat) (h : Try.prog.underlying t = some (.slice e)) : (Op.equalIn (d + 1) t (.slice a l c) (.slice none 0 0)).run Try.prog w = .ok a.isNone w := by
  cases a <;> simp [Op.equalIn, run_underlying h]
theorem eql37 (a : Option Addr) (l c : Nat) (w : World) : (binOp .eql 37 (.slice a l c) (.slice none 0 0)).run Try.prog w = .ok (.bool a.isNone) w := by
  simp only [binOp]
  have h : (Op.equal 37 (.slice a l c) (.slice none 0 0)).run Try.prog w = .ok a.isNone w := eqlNil w 9999 37 2 a l c Try.underlying37
  simp [h]

theorem kN_nil (w : World) (base : Nat) (ok : Nat → Prop) : kN.M w base ok [] [.slice none 0 0] := by
  show ∃ v, [Value.slice none 0 0] = [v] ∧ (Kd.int .i64).R 2 w base ok v [] ∧ ([] = ([] : List Int) → v = .slice none 0 0)
  exact ⟨_, rfl, Kd.R_nil _ _ _ _ _, fun _ => rfl⟩
theorem kN_mk {w : World} {base : Nat} {ok : Nat → Prop} {v : Value} {xs : List Int} (h : (Kd.int .i64).R 2 w base ok v xs) (hx : xs ≠ []) : kN.M w base ok xs [v] := by
  show ∃ u, [v] = [u] ∧ (Kd.int .i64).R 2 w base ok u xs ∧ (xs = ([] : List Int) → u = .slice none 0 0)
  exact ⟨v, rfl, h, fun e => absurd e hx⟩
theorem kV_mk (w : World) (base : Nat) (ok : Nat → Prop) (s : SV) : kV.M w base ok s [.slice s.A s.n s.c] := rfl

theorem heads_in {LS r : List (List Int)} {h : Int} {T : List Int} (ha : LS.any (fun L => inT h L) = true) : heads LS ((h :: T) :: r) = heads LS r := by rw [heads, if_pos ha]
theorem heads_out {LS r : List (List Int)} {h : Int} {T : List Int} (ha : LS.any (fun L => inT h L) = false) : heads LS ((h :: T) :: r) = some h := by rw [heads, if_neg (by rw [ha]; decide)]
theorem any_iff (LS : List (List Int)) (h : Int) : LS.any (fun L => inT h L) = true ↔ anyT h LS := by
  rw [List.any_eq_true]
  exact Iff.rfl
theorem strip_len (h : Int) (L : List Int) : (strip h L).length ≤ L.length := by
  cases L with
  | nil => exact Nat.le_refl _
  | cons x T =>
    by_cases e : x = h
    · simp [strip, e]
    · simp [strip, e]
theorem ne_take {LS : List (List Int)} {p : Nat} (hp : p < LS.length) : (∃ L ∈ LS.take (p + 1), L ≠ []) ↔ (∃ L ∈ LS.take p, L ≠ []) ∨ LS[p] ≠ [] := by
  rw [take_snoc LS p hp]
  constructor
  · rintro ⟨L, hL, hne⟩
    rcases List.mem_append.1 hL with hL | hL
    · exact Or.inl ⟨L, hL, hne⟩
    · rw [List.mem_singleton.1 hL] at hne
      exact Or.inr hne
  · rintro (⟨L, hL, hne⟩ | hne)
    · exact ⟨L, List.mem_append_left _ hL, hne⟩
    · exact ⟨_, List.mem_append_right _ (List.mem_singleton.2 rfl), hne⟩
/-- The rows behind q rounds of stripping. -/
def midS (h : Int) (LS : List (List Int)) (q : Nat) : List (List Int) := (LS.take q).map (strip h) ++ LS.drop q
theorem midS_at (h : Int) (LS : List (List Int)) (q : Nat) (hq : q < LS.length) : (midS h LS q).getD q [] = LS[q] := by
  have : (LS.take q).length = q := by rw [List.length_take]; omega
  simp only [midS, List.getD_eq_getElem?_getD]
  rw [List.getElem?_append_right (by rw [List.length_map, this]; omega), List.length_map, this, Nat.sub_self, List.getElem?_drop, Nat.add_zero, List.getElem?_eq_getElem hq]
  rfl
theorem midS_set (h : Int) (LS : List (List Int)) (q : Nat) (hq : q < LS.length) : (midS h LS q).set q (strip h LS[q]) = midS h LS (q + 1) := by
  have h1 : (LS.take q).length = q := by rw [List.length_take]; omega
  unfold midS
  rw [take_snoc LS q hq, List.map_append, List.set_append_right _ _ (by rw [List.length_map, h1]; omega), List.length_map, h1, Nat.sub_self, List.drop_eq_getElem_cons hq, List.set_cons_zero, List.append_assoc]
  rfl
theorem midS_keep (h : Int) (LS : List (List Int)) (q : Nat) (hq : q < LS.length) (e : strip h LS[q] = LS[q]) : midS h LS q = midS h LS (q + 1) := by
  unfold midS
  rw [take_snoc LS q hq, List.map_append, List.map_cons, List.map_nil, e, List.append_assoc, List.singleton_append, ← List.drop_eq_getElem_cons hq]

theorem midS_zero (h : Int) (LS : List (List Int)) : midS h LS 0 = LS := by simp [midS]
theorem midS_all (h : Int) (LS : List (List Int)) (q : Nat) (hq : LS.length ≤ q) : midS h LS q = LS.map (strip h) := by
  unfold midS
  rw [List.take_of_length_le hq, List.drop_eq_nil_iff.2 hq, List.append_nil]

/-- The slice behind the head of a row that is read. -/
theorem tail_slice {ad : Addr} {m c : Nat} {x : Int} {T : List Int} {w : World} (h : RdL w ⟨some ad, m + 1, c⟩ (x :: T)) (hm : T.length = m) :
    ∃ A2 c2, (∀ W, (Instr.sliceAt 37 (.slice (some ad) (m + 1) c) (some (.int .i64 1)) none none).run Try.prog W = .ok (.slice A2 m c2) W) ∧ RdL w ⟨A2, m, c2⟩ T := by
  obtain ⟨h1, h2, h3⟩ := h
  simp only [List.length_cons] at h2
  have hr : ∀ W, (Instr.sliceAt 37 (.slice (some ad) (m + 1) c) (some (.int .i64 1)) none none).run Try.prog W = .ok (sliced (some ad) 1 (m + 1) c 1) W := by
    intro W
    have h1 : (1 : Int) ≤ ((m + 1 : Nat) : Int) := by omega
    rw [run_sliceAt_slice (P := Try.prog) (w := W) 37 _ _ _ _ (by kernel_rfl), run_slice_l (P := Try.prog) (w := W) 37 (some ad) (m + 1) c (by kernel_rfl) .i64 1 (by omega) h1, show Try.prog.elem 37 = 2 from by kernel_rfl, Try.sizeOf2]
    rfl
  by_cases hc : c = 1
  · subst hc
    obtain rfl : m = 0 := by omega
    refine ⟨some ad, 0, fun W => by rw [hr]; rfl, hm.symm, by omega, ?_⟩
    rw [List.length_eq_zero_iff.1 hm]
    exact Kd.C_of_reads (d := (0 : Int)) (h1 := fun _ => rfl) ⟨rfl, by simp, fun hn => absurd hn (by simp)⟩
  · refine ⟨some (ad.add 1), c - 1, fun W => by rw [hr]; simp [sliced, hc], hm.symm, (by show T.length ≤ c - 1; omega), C_tail h3⟩

set_option maxHeartbeats 8000000 in
set_option maxRecDepth 1000000 in
theorem ylines_calls (A0 : Option Addr) (c0 : Nat) (l0 : List S41) (r : List (List Int)) (w : World) (hr0 : k41.C w A0 l0.length l0) (hc0 : l0.length ≤ c0) (h : impl_ylines.f l0 = some r) :
    Calls Try.prog 44 #[.slice A0 l0.length c0] w fun e w' => ∃ v, e = .returned v ∧ Kd.S kN 37 w' w.heap.size (fun _ => True) v r ∧ Below w.heap.size w w' := by
  unfold impl_ylines.f at h
  split at h
  case isFalse => simp at h
  rename_i hok
  obtain ⟨hok, hsm⟩ := hok
  have HR := Aside0.mk h
  have HOK := Aside0.mk (fun i hi => okCls_base hok i hi)
  have HSM := Aside0.mk hsm
  have HC := Aside0.mk hr0
  have hlen : l0.length ≤ 200 := by
    unfold okCls at hok
    rw [Bool.and_eq_true, decide_eq_true_eq] at hok
    exact hok.1
  clear h hok hsm hr0
  obtain ⟨n, hn⟩ : ∃ n, l0.length = n := ⟨_, rfl⟩
  have HN := Aside0.mk hn
  rw [hn] at HC hlen hc0 ⊢
  clear hn
  go_enter Try.func44, Try.ntmps44
  go_wp2_with fail
  go_step3
  go_wp2_with fail
  go_step3
  go_wp2_with fail
  go_loopg [3, 19] n (fun kq v3 v19 w' => ∃ (i : Nat) (out : List (List Int)), v19 = .int .i64 i ∧ i + kq = n ∧ Aside0 (out.length = i) ∧ Aside0 (linesFrom (l0.drop i) i out = some r) ∧ Aside0 (∀ L ∈ out, L.length ≤ 1000001) ∧ Aside0 (Kd.S kN 37 w' w.heap.size (fun _ => True) v3 out) ∧ Aside0 (Below w.heap.size w w'))
  case atStart => exact ⟨0, [], rfl, by omega, ⟨rfl⟩, ⟨by rw [List.drop_zero]; exact HR.out⟩, ⟨by simp⟩, ⟨Kd.S_nil _ _ _ _ _⟩, ⟨Below.refl _ _⟩⟩
  case round =>
    clear HR
    obtain ⟨i, out, rfl, hik, HOL, HR, HLL, HO, HB⟩ := hrel
    by_cases hi : i < n
    · obtain ⟨kq, rfl⟩ : ∃ q, gk = q + 1 := ⟨gk - 1, by omega⟩
      obtain ⟨ad, B0, d0, B1, d1, rfl, x0, x1, e0, g0, _, _⟩ := at_T41 (Kd.C_below HC.out HB.out) (i : Int) (by omega) (by omega)
      have hiL : i < l0.length := by rw [HN.out]; exact hi
      obtain ⟨_, hbr, hbn⟩ := HOK.out i hiL
      have hbl := HSM.out _ (List.getElem_mem hiL)
      have hrr := HR.out
      rw [List.drop_eq_getElem_cons hiL, linesFrom] at hrr
      rw [rd41 l0 i hiL, Int.toNat_natCast] at x0
      rw [rd41 l0 i hiL, Int.toNat_natCast] at x1
      rw [rd41 l0 i hiL] at e0 g0
      obtain ⟨C, hC⟩ : ∃ C, l0[i] = C := ⟨_, rfl⟩
      rw [hC] at x0 x1 e0 g0 hbr hbn hbl hrr
      obtain ⟨bs, as_⟩ := C
      simp only at x0 x1 e0 g0 hbr hbn hbl hrr
      obtain ⟨LN, hLN, hrr⟩ := Option.bind_eq_some_iff.1 hrr
      have HLN := Aside0.mk hLN
      have HLNL := Aside0.mk (oneLine_len hLN)
      have HRR := Aside0.mk hrr
      have HBR := Aside0.mk hbr
      have HBN := Aside0.mk hbn
      have G0 := Aside0.mk (show RdL wr ⟨B0, bs.length, d0⟩ bs from ⟨rfl, e0, g0⟩)
      clear hC hiL hrr hbr hbn g0 hLN
      obtain ⟨nb, hnb⟩ : ∃ nb, bs.length = nb := ⟨_, rfl⟩
      have HNB := Aside0.mk hnb
      rw [hnb] at x0 e0 G0 hbl
      clear hnb
      go_wp2_with fail
      obtain ⟨Ao, co, rfl⟩ := Kd.S_slice HO.out
      have HOC := Aside0.mk (Kd.S_reads' HO.out).2.2
      have hol := HOL.out
      rw [hol] at HOC
      have HOL2 := Aside0.mk hol
      have HO := Aside0.mk (show Kd.S kN 37 wr w.heap.size (fun _ => True) (.slice Ao i co) out by rw [← hol]; exact HO.out)
      clear hol
      generalize wr = wi at *
      have HX0 := Aside0.mk (show (wi.alloc (.cells #[.slice B0 nb d0, .slice B1 as_.length d1] 41)).heap[wi.heap.size]? = some (.cells #[.slice B0 nb d0, .slice B1 as_.length d1] 41) from heap_alloc_new wi _)
      have HBi := Aside0.mk (show Below wi.heap.size wi (wi.alloc (.cells #[.slice B0 nb d0, .slice B1 as_.length d1] 41)) from below_alloc (Below.refl _ _) _)
      have hwi : w.heap.size ≤ wi.heap.size := HB.out.size
      have hbx : wi.heap.size < (wi.alloc (.cells #[.slice B0 nb d0, .slice B1 as_.length d1] 41)).heap.size := by simp
      generalize wi.alloc (.cells #[.slice B0 nb d0, .slice B1 as_.length d1] 41) = W1 at *
      clear x0 x1
      go_loopg [3, 6, 27] nb (fun kq2 v3 v6 v27 w' => ∃ (j : Nat) (ss : List SV), v27 = .int .i64 j ∧ v3 = .slice Ao i co ∧ j + kq2 = nb ∧ Aside0 (ss.length = j) ∧ Aside0 (∀ b ∈ bs.take j, out.getD b.toNat [] ≠ []) ∧ Aside0 (RdAll wi ss ((bs.take j).map fun b => out.getD b.toNat [])) ∧ Aside0 (Kd.R kV 37 w' wi.heap.size (fun _ => True) v6 ss) ∧ Aside0 (Below wi.heap.size wi w') ∧ Aside0 (w'.heap[wi.heap.size]? = some (.cells #[.slice B0 nb d0, .slice B1 as_.length d1] 41)))
      case atStart => exact ⟨0, [], rfl, by rw [HOL2.out], by omega, ⟨rfl⟩, ⟨by simp⟩, ⟨rfl, by simp⟩, ⟨Kd.R_nil _ _ _ _ _⟩, HBi, HX0⟩
      case round =>
        clear HBi HX0
        obtain ⟨j, ss, rfl, rfl, hjk, HSL, HNE, HRA, HLS, HBi, HX0⟩ := hrel
        have HBw := Aside0.mk (below_step HB.out HBi.out)
        by_cases hj : j < nb
        · obtain ⟨kq2, rfl⟩ : ∃ q, gk = q + 1 := ⟨gk - 1, by omega⟩
          obtain ⟨ae, rfl, y0⟩ := Kd.at_int (Kd.C_below G0.out.2.2 HBi.out) (j : Int) (by omega) (by rw [HNB.out]; omega)
          have hjL : j < bs.length := by rw [HNB.out]; exact hj
          rw [rdI bs j hjL, Int.toNat_natCast] at y0
          have HT := Aside0.mk (take_snoc bs j hjL)
          have hbm := HBR.out _ (List.getElem_mem hjL)
          have HMB := Aside0.mk (List.getElem_mem hjL)
          obtain ⟨b, hb⟩ : ∃ b : Nat, bs[j] = (b : Int) := ⟨(bs[j]).toNat, by omega⟩
          rw [hb] at y0 HT hbm HMB
          have hbi : b < i := by omega
          obtain ⟨ao, A1, c1, rfl, z0, z1, z2⟩ := kN_at HOC.out b hbi
          have z0 := pw_cell_below HBi.out z0
          have HZ1 := Aside0.mk z1
          have HE := Aside0.mk (show (out.getD ((b : Int)).toNat [] : List Int) = out.getD b [] by rw [Int.toNat_natCast])
          clear hb hjL z1
          by_cases hnil : out.getD b [] = []
          · obtain ⟨rfl, rfl⟩ := z2 hnil
            have HAPP : Aside0 (LN = []) := ⟨by
              have h1 := HLN.out
              unfold oneLine at h1
              rw [if_pos] at h1
              · exact (Option.some.inj h1).symm
              · rw [List.any_eq_true]
                exact ⟨(b : Int), HMB.out, by rw [HE.out, hnil]; rfl⟩⟩
            rw [hnil] at z0
            simp only [List.length_nil] at z0
            clear hnil z2
            have heq := eql37 none 0 0
            simp only [Option.isNone_none] at heq
            have HOS := Aside0.mk (Kd.S_mono (ok' := fun k => True ∧ ¬ False) (Kd.S_below HO.out HBi.out) (fun _ _ => ⟨trivial, fun h => h⟩))
            have hsz := HBw.out.size
            go_wp2_with (first | ((with_reducible refine gate_builtin (b := .append) (xs := #[.tmp 36, .tmp 37]) rfl ?_); at_builtin; refine Kd.S_append kN (w0 := w) w.heap.size rfl (.tmp 36) (.tmp 37) 34 37 (.slice none 0 0) 24 rfl Try.underlying34 info37 rfl (by decide) (by omega) (.slice (some ao) i co) out [] [.slice none 0 0] (fun _ => True) (fun _ => False) rfl rfl ?aP (fun _ hk => hk.elim) (fun _ _ => trivial) ?aO ?aB ?aS ?aL ?_; (case aP => exact kN_nil _ _ _); (case aB => exact HBw.out); (case aO => exact HOS.out); (case aS => exact hsz); (case aL => rw [HOL2.out]; omega); intro v1 w1 ho hb hg hat; have HO1 := Aside0.mk ho; have HB1 := Aside0.mk hb; clear ho hb hg hat))
            go_roundg kq
            case measure => omega
            case rel => exact ⟨i + 1, out ++ [[]], by first | rfl | simp, by omega, ⟨by rw [List.length_append, HOL2.out]; rfl⟩, ⟨by rw [← HAPP.out]; exact HRR.out⟩, ⟨fun L hL => by
              rcases List.mem_append.1 hL with hL | hL
              · exact HLL.out L hL
              · rw [List.mem_singleton.1 hL]; simp⟩, HO1, HB1⟩
          · have hA1 : ∃ a1, A1 = some a1 := by
              have hpos : 0 < (out.getD b []).length := List.length_pos_iff.2 hnil
              obtain ⟨a1, e1, _⟩ := Kd.at_int HZ1.out.2.2 0 (by omega) (by simpa using hpos)
              exact ⟨a1, e1⟩
            obtain ⟨a1, rfl⟩ := hA1
            have HNE2 := Aside0.mk (show ∀ x ∈ bs.take (j + 1), out.getD x.toNat [] ≠ [] by
              rw [HT.out]
              intro x hx
              rcases List.mem_append.1 hx with hx | hx
              · exact HNE.out x hx
              · rw [List.mem_singleton.1 hx, HE.out]
                exact hnil)
            have HRA2 := Aside0.mk (show RdAll wi (ss ++ [⟨some a1, (out.getD b []).length, c1⟩]) ((bs.take (j + 1)).map fun b => out.getD b.toNat []) by
              rw [HT.out, List.map_append]
              have h1 := HRA.out.snoc HZ1.out
              rw [List.map_cons, List.map_nil, HE.out]
              exact h1)
            clear hnil z2
            generalize (out.getD b []).length = m at *
            have heq := eql37 (some a1) m c1
            simp only [Option.isNone_some] at heq
            have hsz := HBi.out.size
            go_wp2_with (first | ((with_reducible refine gate_builtin (b := .append) (xs := #[.tmp 39, .tmp 44]) rfl ?_); at_builtin; refine Kd.R_append kV (w0 := wi) wi.heap.size rfl (.tmp 39) (.tmp 44) 34 37 (.slice none 0 0) 24 rfl Try.underlying34 info37 rfl (by decide) (by omega) _ ss ⟨some a1, m, c1⟩ [.slice (some a1) m c1] (fun _ => True) (fun _ => False) rfl rfl ?aP (fun _ hk => hk.elim) (fun _ _ => trivial) ?aO ?aB ?aS ?aL ?_; (case aP => exact kV_mk _ _ _ ⟨some a1, m, c1⟩); (case aB => exact HBi.out); (case aO => exact HLS.out); (case aS => exact hsz); (case aL => rw [HSL.out]; omega); intro v1 w1 ho hb hg hat; have HO1 := Aside0.mk ho; have HB1 := Aside0.mk hb; have HG1 := Aside0.mk hg; clear ho hb hg hat))
            have HX1 := Aside0.mk ((HG1.out.block wi.heap.size (lt_of_block HX0.out) (Kd.R_ne HLS.out HX0.out (by decide))).trans HX0.out)
            go_roundg kq2
            case measure => omega
            case rel => exact ⟨j + 1, ss ++ [⟨some a1, m, c1⟩], by first | rfl | simp, rfl, by omega, ⟨by rw [List.length_append, HSL.out]; rfl⟩, HNE2, HRA2, HO1, HB1, HX1⟩
        · have hjn : j = nb := by omega
          subst hjn
          have hallb : bs.take j = bs := by rw [← HNB.out, List.take_length]
          have HMG : Aside0 (mergeM 1000000 (bs.map (fun b => out.getD b.toNat []) ++ [bs]) [(i : Int)] = some LN) := ⟨by
            have h1 := HLN.out
            unfold oneLine at h1
            rw [if_neg] at h1
            · exact h1
            · rw [List.any_eq_true]
              rintro ⟨b, hb, he⟩
              have := HNE.out b (by rw [hallb]; exact hb)
              rw [List.isEmpty_iff] at he
              exact this he⟩
          have HRA2 := Aside0.mk (show RdAll wi (ss ++ [⟨B0, j, d0⟩]) (bs.map (fun b => out.getD b.toNat []) ++ [bs]) by
            have h1 := HRA.out
            rw [hallb] at h1
            exact h1.snoc G0.out)
          clear hallb
          have x0 : wr.cell? ⟨wi.heap.size, 0, none⟩ = some (.slice B0 j d0) := (blk_cell HX0.out 0).trans rfl
          have hbz := lt_of_block HX0.out
          have hsz := HBi.out.size
          go_wp2_with (first | ((with_reducible refine gate_builtin (b := .append) (xs := #[.tmp 47, .tmp 50]) rfl ?_); at_builtin; refine Kd.R_append kV (w0 := wi) wi.heap.size rfl (.tmp 47) (.tmp 50) 34 37 (.slice none 0 0) 24 rfl Try.underlying34 info37 rfl (by decide) (by omega) _ ss ⟨B0, j, d0⟩ [.slice B0 j d0] (fun _ => True) (fun _ => False) rfl rfl ?aP (fun _ hk => hk.elim) (fun _ _ => trivial) ?aO ?aB ?aS ?aL ?_; (case aP => exact kV_mk _ _ _ ⟨B0, j, d0⟩); (case aB => exact HBi.out); (case aO => exact HLS.out); (case aS => exact hsz); (case aL => rw [HSL.out]; omega); intro v1 w1 ho hb hg hat; have HO1 := Aside0.mk ho; have HB1 := Aside0.mk hb; have HG1 := Aside0.mk hg; clear ho hb hg hat))
          obtain ⟨gl, cl, rfl, _, _, _⟩ := Kd.R_form HO1.out (by simp)
          have hNl : (ss ++ [(⟨B0, j, d0⟩ : SV)]).length = j + 1 := by rw [List.length_append, HSL.out]; rfl
          have HO1 := Aside0.mk (show Kd.R kV 37 w1 wi.heap.size (fun _ => True) (.slice (some ⟨gl, 0, none⟩) (j + 1) cl) (ss ++ [⟨B0, j, d0⟩]) by rw [← hNl]; exact HO1.out)
          rw [hNl]
          have HLL2 : Aside0 (∀ L ∈ (bs.map (fun b => out.getD b.toNat []) ++ [bs]), L.length ≤ 1000000000) := ⟨fun L hL => by
            rcases List.mem_append.1 hL with hL | hL
            · obtain ⟨b, hb, rfl⟩ := List.mem_map.1 hL
              rw [List.getD_eq_getElem?_getD]
              cases hc : out[b.toNat]? with
              | none => simp
              | some L => have := HLL.out L (List.mem_of_getElem? hc); simp; omega
            · rw [List.mem_singleton.1 hL, HNB.out]
              omega⟩
          have HN2 := Aside0.mk hNl
          have hsz1 := HB1.out.size
          have HLI := Aside0.mk (show Kd.R kI 2 (w1.alloc (.cells #[.int .i64 (i : Int)] 2)) wi.heap.size (fun _ => True) (.slice (some ⟨w1.heap.size, 0, none⟩) 1 1) [(i : Int)] from Kd.R_of_own (enc := Value.int .i64) (h1 := fun _ => rfl) (own_lit w1 wi.heap.size 2 .i64 [(i : Int)] hsz1 (by simp)) (fun _ _ => trivial))
          have HLS1 := Aside0.mk (Kd.R_alloc HO1.out (.cells #[.int .i64 (i : Int)] 2))
          have HB2 := Aside0.mk (below_alloc HB1.out (.cells #[.int .i64 (i : Int)] 2))
          generalize (ss ++ [(⟨B0, j, d0⟩ : SV)]) = SS0 at *
          generalize (bs.map (fun b => out.getD b.toNat []) ++ [bs]) = LS0 at *
          clear hNl HO1 HB1 HG1 HBi HX0 HLS HRA HNE HSL x0 hbz hsz hsz1
          have hj1000 : j + 1 ≤ 1001 := by omega
          obtain ⟨N, hN⟩ : ∃ N, j + 1 = N := ⟨_, rfl⟩
          rw [hN] at HLS1 HN2 hj1000 ⊢
          have hN1 : 1 ≤ N := by omega
          clear hN
          generalize w1.alloc (.cells #[.int .i64 (i : Int)] 2) = W2 at *
          go_loopg [3, 9] 1000000 (fun kq3 v3 v9 w' => v3 = .slice Ao i co ∧ ∃ (SS : List SV) (LS : List (List Int)) (line : List Int), Aside0 (SS.length = N) ∧ Aside0 (RdAll wi SS LS) ∧ Aside0 (∀ L ∈ LS, L.length ≤ 1000000000) ∧ Aside0 (mergeM kq3 LS line = some LN) ∧ Aside0 (line ≠ []) ∧ Aside0 (line.length + kq3 = 1000001) ∧ Aside0 (Kd.R kV 37 w' wi.heap.size (fun _ => True) (.slice (some ⟨gl, 0, none⟩) N cl) SS) ∧ Aside0 (Kd.R kI 2 w' wi.heap.size (fun _ => True) v9 line) ∧ Aside0 (Below wi.heap.size wi w'))
          case atStart => exact ⟨rfl, SS0, LS0, [(i : Int)], HN2, HRA2, HLL2, HMG, ⟨by simp⟩, ⟨rfl⟩, HLS1, HLI, HB2⟩
          case round =>
            clear HN2 HRA2 HLL2 HMG HLS1 HLI HB2
            obtain ⟨rfl, SS, LS, line, HN2, HRA, HLL2, HMG, HLE, HLF, HLS, HLI, HBi⟩ := hrel
            obtain ⟨k3, rfl⟩ : ∃ q, gk = q + 1 := ⟨gk - 1, by
              cases gk with
              | zero => have := HMG.out; simp [mergeM] at this
              | succ q => omega⟩
            have HBw := Aside0.mk (below_step HB.out HBi.out)
            obtain ⟨hd, hhd⟩ : ∃ hd, heads LS LS = hd := ⟨_, rfl⟩
            have HHD := Aside0.mk hhd
            have hmg := HMG.out
            rw [mergeM, hhd] at hmg
            have HM2 := Aside0.mk hmg
            clear hmg hhd
            have hLSN : LS.length = N := by rw [← HRA.out.1, HN2.out]
            have HLSN := Aside0.mk hLSN
            clear hLSN
            go_wp2_with fail
            go_loopg [9, 10, 11, 56] N (fun kq4 v9 v10 v11 v56 w' => ∃ p : Nat, v56 = .int .i64 p ∧ v11 = .bool false ∧ p + kq4 = N ∧ (∃ lf : Bool, v10 = .bool lf ∧ Aside0 (lf = true ↔ ∃ L ∈ LS.take p, L ≠ [])) ∧ Aside0 (heads LS (LS.drop p) = hd) ∧ Aside0 (Kd.R kV 37 w' wi.heap.size (fun _ => True) (.slice (some ⟨gl, 0, none⟩) N cl) SS) ∧ Aside0 (Kd.R kI 2 w' wi.heap.size (fun _ => True) v9 line) ∧ Aside0 (Below wi.heap.size wi w'))
            case atStart => exact ⟨0, rfl, rfl, by omega, ⟨false, rfl, ⟨by simp⟩⟩, ⟨by rw [List.drop_zero]; exact HHD.out⟩, HLS, HLI, HBi⟩
            case round =>
              clear HLS HLI HBi HBw
              obtain ⟨p, rfl, rfl, hpk, ⟨lf, rfl, HLFL⟩, HHP, HLS, HLI, HBi⟩ := hrel
              have HBw := Aside0.mk (below_step HB.out HBi.out)
              by_cases hp : p < N
              · obtain ⟨kq4, rfl⟩ : ∃ q, gk = q + 1 := ⟨gk - 1, by omega⟩
                have hpL : p < LS.length := by rw [HLSN.out]; exact hp
                have hpS : p < SS.length := by rw [HN2.out]; exact hp
                obtain ⟨ade, eade, y0⟩ := kV_cell (Kd.R_reads' HLS.out).2.2 rfl p hpS
                obtain rfl := Option.some.inj eade
                have hRp := HRA.out.2 p hpS
                have hgp : LS.getD p [] = LS[p] := by rw [List.getD_eq_getElem?_getD, List.getElem?_eq_getElem hpL]; rfl
                rw [hgp] at hRp
                have HNT := Aside0.mk (ne_take hpL)
                have hhp := HHP.out
                rw [List.drop_eq_getElem_cons hpL] at hhp
                rw [add_plain] at y0
                generalize SS.getD p zV = sp at *
                obtain ⟨A1, n1, c1⟩ := sp
                simp only at y0
                obtain ⟨hr1, hr2, hr3⟩ := hRp
                simp only at hr1 hr2 hr3
                cases hL : LS[p] with
                | nil =>
                  rw [hL] at hr1 HNT hhp
                  simp only [List.length_nil] at hr1
                  subst hr1
                  have HLF2 := Aside0.mk (show lf = true ↔ ∃ L ∈ LS.take (p + 1), L ≠ [] by rw [HNT.out, HLFL.out]; simp)
                  have HHP2 := Aside0.mk (show heads LS (LS.drop (p + 1)) = hd from hhp)
                  clear hr2 hr3 hhp hgp hpL hpS hL
                  go_wp2_with fail
                  go_roundg kq4
                  case measure => omega
                  case rel => exact ⟨p + 1, by first | rfl | simp, rfl, by omega, ⟨lf, rfl, HLF2⟩, HHP2, HLS, HLI, HBi⟩
                | cons x T =>
                  rw [hL] at hr1 hr2 hr3 HNT hhp
                  obtain ⟨a1, rfl, z0⟩ := Kd.at_int hr3 0 (by omega) (by simp)
                  have z0 := pw_cell_below HBi.out z0
                  rw [show rd (x :: T) 0 = x from rfl, show (Int.toNat 0) = 0 from rfl] at z0
                  have hn1 : n1 = T.length + 1 := by rw [hr1]; simp
                  have HLF2 := Aside0.mk (show true = true ↔ ∃ L ∈ LS.take (p + 1), L ≠ [] by rw [HNT.out]; simp)
                  have HR3 := Aside0.mk hr3
                  obtain ⟨b, hb⟩ : ∃ b, LS.any (fun L => inT x L) = b := ⟨_, rfl⟩
                  have HBB := Aside0.mk hb
                  have HX := Aside0.mk hhp
                  have hn1z : (n1 : Int) = (T.length : Int) + 1 := by omega
                  clear hr1 hr2 hr3 hhp hgp hpL hpS hL hb
                  have hpos : 0 < n1 := by omega
                  have hne0 : ((n1 : Int) == 0) = false := by simp; omega
                  clear hn1 hn1z
                  have z00 : wr.cell? a1 = some (.int .i64 x) := by
                    have e : a1.add 0 = a1 := by simp [Addr.add]
                    rw [e] at z0
                    exact z0
                  have hcN : N ≤ cl := by have := (Kd.R_reads' HLS.out).2.1; exact this
                  have HLSa := Aside0.mk (Kd.R_alloc HLS.out (.cells #[.int .i64 x] 2))
                  have HLIa := Aside0.mk (Kd.R_alloc HLI.out (.cells #[.int .i64 x] 2))
                  have HBa := Aside0.mk (below_alloc HBi.out (.cells #[.int .i64 x] 2))
                  have hgh := heap_alloc_new wr (.cells #[.int .i64 x] 2)
                  have HGH := Aside0.mk hgh
                  have cF := containsF_calls (some ⟨gl, 0, none⟩) cl SS LS x wr.heap.size b (by rw [← HBB.out]; exact any_iff LS x) (wr.alloc (.cells #[.int .i64 x] 2)) (by have := (Kd.R_reads' HLSa.out).2.2; exact this) (by rw [HN2.out]; exact hcN) (by rw [HN2.out]; omega) (HRA.out.below HBa.out) (fun L hL => by have := HLL2.out L hL; omega) ((blk_cell hgh 0).trans rfl)
                  rw [HN2.out] at cF
                  have CF := Aside0.mk cF
                  have HGL := Aside0.mk (Kd.R_lt HLI.out)
                  have hl1 : (line.length + 1) * 8 ≤ 140737488355328 := by have := HLF.out; omega
                  have hszi := HBa.out.size
                  unfold clos at CF
                  clear cF hgh z0
                  cases b with
                  | true =>
                    have HHP2 := Aside0.mk (show heads LS (LS.drop (p + 1)) = hd by rw [← HX.out, heads_in HBB.out])
                    go_wp2_with fail
                    refine CF.out.mono ?_
                    rintro e w1 ⟨rfl, q1, rfl⟩
                    clear CF
                    go_wp2_with fail
                    go_roundg kq4
                    case measure => omega
                    case rel => exact ⟨p + 1, by first | rfl | simp, rfl, by omega, ⟨true, rfl, ⟨⟨fun _ => HLF2.out.1 trivial, fun _ => rfl⟩⟩⟩, HHP2, ⟨Kd.R_drewN HLSa.out q1⟩, ⟨Kd.R_drewN HLIa.out q1⟩, ⟨pw_below_drewN HBa.out q1⟩⟩
                  | false =>
                    have hdx : hd = some x := by rw [← HX.out, heads_out HBB.out]
                    subst hdx
                    have hm2 := HM2.out
                    simp only at hm2
                    have HM3 := Aside0.mk hm2
                    clear hm2
                    go_wp2_with fail
                    refine CF.out.mono ?_
                    rintro e w1 ⟨rfl, q1, rfl⟩
                    clear CF
                    have HLSd := Aside0.mk (Kd.R_drewN HLSa.out q1)
                    have HLId := Aside0.mk (Kd.R_drewN HLIa.out q1)
                    have HBd := Aside0.mk (pw_below_drewN HBa.out q1)
                    have HGd := Aside0.mk (show ((wr.alloc (.cells #[.int .i64 x] 2)).drewN q1).heap[wr.heap.size]? = some (.cells #[.int .i64 x] 2) from HGH.out)
                    have hhc : ((wr.alloc (.cells #[.int .i64 x] 2)).drewN q1).cell? ⟨wr.heap.size, 0, none⟩ = some (.int .i64 x) := (blk_cell HGd.out 0).trans rfl
                    clear HLSa HLIa HBa HGH
                    generalize (wr.alloc (.cells #[.int .i64 x] 2)).drewN q1 = W5 at *
                    obtain ⟨gh, hghe⟩ : ∃ gh, wr.heap.size = gh := ⟨_, rfl⟩
                    rw [hghe] at HGd hhc HGL ⊢
                    clear hghe
                    have hszi := HBd.out.size
                    have hghl := lt_of_block HGd.out
                    go_wp2_with (first | ((with_reducible refine gate_builtin (b := .append) (xs := #[.tmp 69, .tmp 71]) rfl ?_); at_builtin; refine Kd.R_append kI (w0 := wi) wi.heap.size rfl (.tmp 69) (.tmp 71) 37 2 (.int .i64 0) 8 rfl Try.underlying37 info2' rfl (by decide) (by omega) _ line x [.int .i64 x] (fun _ => True) (fun _ => False) rfl rfl ?aP (fun _ hk => hk.elim) (fun _ _ => trivial) ?aO ?aB ?aS ?aL ?_; (case aP => rfl); (case aB => exact HBd.out); (case aO => exact HLId.out); (case aS => exact hszi); (case aL => exact hl1); intro v1 w1 ho hb hg hat; have HO1 := Aside0.mk ho; have HB1 := Aside0.mk hb; have HG1 := Aside0.mk hg; clear ho hb hg hat))
                    have HLS1 := Aside0.mk (Kd.R_over' HLSd.out (Kd.R_typed HLId.out) (fun q hq => by rw [List.mem_singleton.1 hq]; decide) HG1.out)
                    have HH1 := Aside0.mk ((HG1.out.block gh hghl (fun e => Nat.lt_irrefl _ (HGL.out gh e.symm))).trans HGd.out)
                    clear HLSd HLId HBd HGd hhc HG1 HLS HLI HBi HBw HGL hszi hghl hl1
                    go_loopg [75] N (fun kq5 v75 w' => ∃ (q : Nat) (S5 : List SV), v75 = .int .i64 q ∧ q + kq5 = N ∧ Aside0 (S5.length = N) ∧ Aside0 (RdAll wi S5 (midS x LS q)) ∧ Aside0 (Kd.R kV 37 w' wi.heap.size (fun _ => True) (.slice (some ⟨gl, 0, none⟩) N cl) S5) ∧ Aside0 (Kd.R kI 2 w' wi.heap.size (fun _ => True) v1 (line ++ [x])) ∧ Aside0 (Below wi.heap.size wi w') ∧ Aside0 (w'.heap[gh]? = some (.cells #[.int .i64 x] 2)))
                    case atStart => exact ⟨0, SS, rfl, by omega, HN2, ⟨by rw [midS_zero]; exact HRA.out⟩, HLS1, HO1, HB1, HH1⟩
                    case round =>
                      clear HLS1 HO1 HB1 HH1
                      obtain ⟨q, S5, rfl, hqk, HN5, HRA5, HLS5, HO5, HB5, HH5⟩ := hrel
                      by_cases hq : q < N
                      · obtain ⟨kq5, rfl⟩ : ∃ z, gk = z + 1 := ⟨gk - 1, by omega⟩
                        have hqL : q < LS.length := by rw [HLSN.out]; exact hq
                        have hqS : q < S5.length := by rw [HN5.out]; exact hq
                        obtain ⟨ade, eade, y1⟩ := kV_cell (Kd.R_reads' HLS5.out).2.2 rfl q hqS
                        obtain rfl := Option.some.inj eade
                        have hRq := HRA5.out.2 q hqS
                        rw [midS_at x LS q hqL] at hRq
                        rw [add_plain] at y1
                        have hh : wr.cell? ⟨gh, 0, none⟩ = some (.int .i64 x) := (blk_cell HH5.out 0).trans rfl
                        have hKEEP := midS_keep x LS q hqL
                        have hSET := midS_set x LS q hqL
                        obtain ⟨L, hL⟩ : ∃ L, LS[q] = L := ⟨_, rfl⟩
                        rw [hL] at hRq hKEEP hSET
                        obtain ⟨sq, hsq⟩ : ∃ s, S5.getD q zV = s := ⟨_, rfl⟩
                        rw [hsq] at hRq y1
                        have HKEEP := Aside0.mk hKEEP
                        have HSET := Aside0.mk hSET
                        have HRQ := Aside0.mk hRq
                        clear hL hKEEP hSET hRq hqS hqL hsq
                        obtain ⟨A2, n2, c2⟩ := sq
                        simp only at y1
                        obtain ⟨hr1, hr2, hr3⟩ := HRQ.out
                        simp only at hr1 hr2 hr3
                        cases L with
                        | nil =>
                          simp only [List.length_nil] at hr1
                          subst hr1
                          have HR6 := Aside0.mk (show RdAll wi S5 (midS x LS (q + 1)) by rw [← HKEEP.out rfl]; exact HRA5.out)
                          clear hr2 hr3 HKEEP HSET HRQ
                          go_wp2_with fail
                          go_quiet (fail)
                          go_wp2_with fail
                          go_roundg kq5
                          case measure => omega
                          case rel => exact ⟨q + 1, S5, by first | rfl | simp, by omega, HN5, HR6, ⟨Kd.R_drewN HLS5.out _⟩, ⟨Kd.R_drewN HO5.out _⟩, ⟨pw_below_drewN HB5.out _⟩, ⟨HH5.out⟩⟩
                        | cons y T5 =>
                          obtain ⟨a2, rfl, u0⟩ := Kd.at_int hr3 0 (by omega) (by simp)
                          have u0 := pw_cell_below HB5.out u0
                          rw [show rd (y :: T5) 0 = y from rfl, show (Int.toNat 0) = 0 from rfl, show a2.add 0 = a2 by simp [Addr.add]] at u0
                          obtain ⟨m, hm⟩ : ∃ m, T5.length = m := ⟨_, rfl⟩
                          have hn2 : n2 = m + 1 := by rw [hr1]; simp [hm]
                          subst hn2
                          obtain ⟨A3, c3, hsl, hT⟩ := tail_slice (T := T5) (x := y) HRQ.out hm
                          have HTT := Aside0.mk hT
                          have hg1 : decide ((0 : Int) < ((m + 1 : Nat) : Int)) = true := decide_eq_true (by omega)
                          have hg2 : decide ((0 : Int) < (m : Int) + 1) = true := decide_eq_true (by omega)
                          have hg3 : (0 : Int) < (m : Int) + 1 := by omega
                          clear hr1 hr2 hr3 hT HRQ hm
                          by_cases hyx : y = x
                          · rw [hyx] at u0
                            have HSTR : strip x (y :: T5) = T5 := by simp [strip, hyx]
                            have HR6 := Aside0.mk (show RdAll wi (S5.set q ⟨A3, m, c3⟩) (midS x LS (q + 1)) by rw [← HSET.out, HSTR]; exact HRA5.out.set q HTT.out)
                            have HN6 := Aside0.mk (show (S5.set q (⟨A3, m, c3⟩ : SV)).length = N by rw [List.length_set]; exact HN5.out)
                            obtain ⟨hc_, hf_⟩ := Kd.R_celln (enc := encV) (h1 := fun _ => rfl) zV HLS5.out (q : Int) (by omega) (by omega)
                            rw [Int.toNat_natCast] at hf_
                            have HALL := Aside0.mk (fun k => (⟨Kd.R_putn (enc := encV) (h1 := fun _ => rfl) (Kd.R_drewN HLS5.out k) (q : Int) ⟨A3, m, c3⟩, by
                              obtain ⟨cells, hcl⟩ := Kd.R_typed HLS5.out gl rfl
                              exact Kd.R_set (Kd.R_drewN HO5.out k) (g := gl) (t := 37) (cells := cells) hcl (fun q hq => by rw [List.mem_singleton.1 hq]; decide) q _, below_set (pw_below_drewN HB5.out k) (Kd.R_base HLS5.out gl rfl), (Below.heap_setCell _ _ _ gh (fun e => by
                              have := Kd.R_ne HLS5.out HH5.out (by decide)
                              exact this (by rw [e]; rfl))).trans HH5.out⟩ : Kd.R kV 37 ((wr.drewN k).setCell ⟨gl, q, none⟩ (.slice A3 m c3)) wi.heap.size (fun _ => True) (.slice (some ⟨gl, 0, none⟩) N cl) (S5.set q ⟨A3, m, c3⟩) ∧ Kd.R kI 2 ((wr.drewN k).setCell ⟨gl, q, none⟩ (.slice A3 m c3)) wi.heap.size (fun _ => True) v1 (line ++ [x]) ∧ Below wi.heap.size wi ((wr.drewN k).setCell ⟨gl, q, none⟩ (.slice A3 m c3)) ∧ ((wr.drewN k).setCell ⟨gl, q, none⟩ (.slice A3 m c3)).heap[gh]? = some (.cells #[.int .i64 x] 2)))
                            clear hyx hc_ HSTR HTT
                            go_wp2_with fail
                            go_quiet (fail)
                            go_wp2_with (first | ((with_reducible refine gate_store (t := 37) (p := 94) rfl ?_); refine store_event (t := 37) (p := 94) (v := .tmp 93) (w1 := ?w1) ?hg ?ho ?hn ?hr ?_; (case ho => rfl); (case hg => rfl); (case hn => rfl); (case hr => first | (go_simp; done) | (go_simp; rfl)); intro w13 hw; have HX13 := Aside0.mk (by rw [hw]; exact HALL.out _ : Kd.R kV 37 w13 wi.heap.size (fun _ => True) (.slice (some ⟨gl, 0, none⟩) N cl) (S5.set q ⟨A3, m, c3⟩) ∧ Kd.R kI 2 w13 wi.heap.size (fun _ => True) v1 (line ++ [x]) ∧ Below wi.heap.size wi w13 ∧ w13.heap[gh]? = some (.cells #[.int .i64 x] 2)); clear hw))
                            go_roundg kq5
                            case measure => omega
                            case rel => exact ⟨q + 1, S5.set q ⟨A3, m, c3⟩, by first | rfl | simp, by omega, HN6, HR6, ⟨HX13.out.1⟩, ⟨HX13.out.2.1⟩, ⟨HX13.out.2.2.1⟩, ⟨HX13.out.2.2.2⟩⟩
                          · have hyb : (y == x) = false := by simpa using hyx
                            have HSTR : strip x (y :: T5) = y :: T5 := by simp [strip, hyx]
                            have HR6 := Aside0.mk (show RdAll wi S5 (midS x LS (q + 1)) by rw [← HKEEP.out HSTR]; exact HRA5.out)
                            clear hyx HSTR HTT hsl HKEEP HSET
                            go_wp2_with fail
                            go_quiet (fail)
                            go_wp2_with fail
                            go_roundg kq5
                            case measure => omega
                            case rel => exact ⟨q + 1, S5, by first | rfl | simp, by omega, HN5, HR6, ⟨Kd.R_drewN HLS5.out _⟩, ⟨Kd.R_drewN HO5.out _⟩, ⟨pw_below_drewN HB5.out _⟩, ⟨HH5.out⟩⟩
                      · have HR6 := Aside0.mk (show RdAll wi S5 (LS.map (strip x)) by
                          have h1 := HRA5.out
                          rw [midS_all x LS q (by rw [HLSN.out]; omega)] at h1
                          exact h1)
                        have hqN : q = N := by omega
                        subst hqN
                        go_wp2_with fail
                        go_roundg k3
                        case measure => omega
                        case rel => exact ⟨rfl, S5, LS.map (strip x), line ++ [x], HN5, HR6, ⟨fun L hL => by
                          obtain ⟨L0, h0, rfl⟩ := List.mem_map.1 hL
                          have h1 := HLL2.out L0 h0
                          have h2 := strip_len x L0
                          omega⟩, HM3, ⟨by simp⟩, ⟨by
                          have h1 := HLF.out
                          rw [List.length_append, List.length_singleton]
                          omega⟩, HLS5, HO5, HB5⟩
              · have hdn : hd = none := by
                  have h1 := HHP.out
                  rw [List.drop_eq_nil_iff.2 (by rw [HLSN.out]; omega)] at h1
                  exact h1.symm
                subst hdn
                have hta : LS.take p = LS := List.take_of_length_le (by rw [HLSN.out]; omega)
                have hlf := HLFL.out
                rw [hta] at hlf
                have hm2 := HM2.out
                simp only at hm2
                have hpN : p = N := by omega
                subst hpN
                have HOLT := Aside0.mk (Kd.S_lt HO.out)
                have hsz := HBw.out.size
                have HOS := Aside0.mk (Kd.S_mono (ok' := fun k => True ∧ ¬ wi.heap.size ≤ k) (Kd.S_old HO.out HBi.out) (fun _ hk => ⟨trivial, Nat.not_le.2 hk.2⟩))
                cases lf with
                | false =>
                  have HEQ : Aside0 (LN = line) := ⟨by
                    rw [if_pos] at hm2
                    · exact (Option.some.inj hm2).symm
                    · rw [List.all_eq_true]
                      intro L hL
                      rw [List.isEmpty_iff]
                      apply Classical.byContradiction
                      intro hne
                      have := hlf.2 ⟨L, hL, hne⟩
                      cases this⟩
                  have HAP := Aside0.mk (kN_mk (Kd.R_mono (ok' := fun k => wi.heap.size ≤ k) (Kd.R_lower (Kd.R_bound HLI.out) hwi) (fun _ h => h.2.1)) HLE.out)
                  obtain ⟨gx, cx, rfl, _, _, _⟩ := Kd.R_form HLI.out (List.length_pos_iff.2 HLE.out)
                  clear hlf hta hm2
                  go_wp2_with (first | ((with_reducible refine gate_builtin (b := .append) (xs := #[.tmp 99, .tmp 101]) rfl ?_); at_builtin; refine Kd.S_append kN (w0 := w) w.heap.size rfl (.tmp 99) (.tmp 101) 34 37 (.slice none 0 0) 24 rfl Try.underlying34 info37 rfl (by decide) (by omega) (.slice Ao i co) out line _ (fun _ => True) (fun k => wi.heap.size ≤ k) rfl rfl ?aP (fun k hk => ⟨trivial, fun e => Nat.not_lt.2 hk (HOLT.out k e.symm)⟩) (fun _ _ => trivial) ?aO ?aB ?aS ?aL ?_; (case aP => exact HAP.out); (case aB => exact HBw.out); (case aO => exact HOS.out); (case aS => exact hsz); (case aL => rw [HOL2.out]; omega); intro v1 w1 ho hb hg hat; have HO1 := Aside0.mk ho; have HB1 := Aside0.mk hb; clear ho hb hg hat))
                  go_roundg kq
                  case measure => omega
                  case rel => exact ⟨i + 1, out ++ [line], by first | rfl | simp, by omega, ⟨by rw [List.length_append, HOL2.out]; rfl⟩, ⟨by rw [← HEQ.out]; exact HRR.out⟩, ⟨fun L hL => by
                    rcases List.mem_append.1 hL with hL | hL
                    · exact HLL.out L hL
                    · rw [List.mem_singleton.1 hL, ← HEQ.out]; exact HLNL.out⟩, HO1, HB1⟩
                | true =>
                  have HEQ : Aside0 (LN = []) := ⟨by
                    rw [if_neg] at hm2
                    · exact (Option.some.inj hm2).symm
                    · rw [List.all_eq_true]
                      intro hall
                      obtain ⟨L, hL, hne⟩ := hlf.1 rfl
                      exact hne (List.isEmpty_iff.1 (hall L hL))⟩
                  clear hlf hta hm2
                  go_wp2_with (first | ((with_reducible refine gate_builtin (b := .append) (xs := #[.tmp 105, .tmp 106]) rfl ?_); at_builtin; refine Kd.S_append kN (w0 := w) w.heap.size rfl (.tmp 105) (.tmp 106) 34 37 (.slice none 0 0) 24 rfl Try.underlying34 info37 rfl (by decide) (by omega) (.slice Ao i co) out [] [.slice none 0 0] (fun _ => True) (fun k => wi.heap.size ≤ k) rfl rfl ?aP (fun k hk => ⟨trivial, fun e => Nat.not_lt.2 hk (HOLT.out k e.symm)⟩) (fun _ _ => trivial) ?aO ?aB ?aS ?aL ?_; (case aP => exact kN_nil _ _ _); (case aB => exact HBw.out); (case aO => exact HOS.out); (case aS => exact hsz); (case aL => rw [HOL2.out]; omega); intro v1 w1 ho hb hg hat; have HO1 := Aside0.mk ho; have HB1 := Aside0.mk hb; clear ho hb hg hat))
                  go_roundg kq
                  case measure => omega
                  case rel => exact ⟨i + 1, out ++ [[]], by first | rfl | simp, by omega, ⟨by rw [List.length_append, HOL2.out]; rfl⟩, ⟨by rw [← HEQ.out]; exact HRR.out⟩, ⟨fun L hL => by
                    rcases List.mem_append.1 hL with hL | hL
                    · exact HLL.out L hL
                    · rw [List.mem_singleton.1 hL]; simp⟩, HO1, HB1⟩
    · have hin : i = n := by omega
      subst hin
      have hd : l0.drop i = [] := List.drop_eq_nil_iff.2 (by rw [HN.out]; exact Nat.le_refl _)
      have e := HR.out
      rw [hd, linesFrom] at e
      have e := Option.some.inj e
      subst e
      clear hd
      go_wp2
      (try rw [Exit.noGoto_ret])
      go_ret
      exact ⟨_, rfl, HO.out, HB.out⟩

end Go.Proofs.Ytkclfbmgnhmkhaa.PC
