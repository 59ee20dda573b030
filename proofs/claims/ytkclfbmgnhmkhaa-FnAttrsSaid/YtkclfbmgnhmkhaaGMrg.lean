/- What l9InTail and l9Merge of the specification come to. No condition beyond those of the theorems. -/
import Derived.Test.YtkclfbmgnhmkhaaGLin
namespace Go.Proofs.Ytkclfbmgnhmkhaa.PC
open Go.RowKit Go.Proofs.YtkclfbmgnhmkhaaW.PrintWords Go.Proofs.YtkclfbmgnhmkhaaW.PrintLast Go.Proofs.YtkclfbmgnhmkhaaW.PrintMore
set_option linter.unusedVariables false
set_option linter.unusedSimpArgs false

/-- The reference's merge: the line, and whether all rows were taken. -/
def mS : Nat → List (List Int) → List Int → Option (List Int × Bool)
  | 0, _, _ => none
  | k + 1, LS, line => match heads LS LS with
    | some h => mS k (LS.map (strip h)) (line ++ [h])
    | none => if LS.all (fun L => L.isEmpty) = true then some (line, true) else some ([], false)

theorem inT_drop (x : Int) : ∀ L : List Int, inT x L = decide (x ∈ L.drop 1)
  | [] => by simp [inT]
  | y :: T => by simp [inT]

set_option maxHeartbeats 1000000 in
set_option maxRecDepth 1000000 in
theorem inTail_calls (A : Option Addr) (c : Nat) (L : List Int) (x : Int) (w : World) (hr : (Kd.int .i64).C w A L.length L) (hc : L.length ≤ c) (hl : L.length ≤ 1000000000000) :
    Calls Try.prog 71 #[.slice A L.length c, .int .i64 x] w fun e w' => e = .returned (.bool (inT x L)) ∧ ∃ q, w' = w.drewN q := by
  have HC := Aside0.mk hr
  have HI := Aside0.mk (inT_drop x L)
  clear hr
  obtain ⟨n, hn⟩ : ∃ n, L.length = n := ⟨_, rfl⟩
  have HN := Aside0.mk hn
  rw [hn] at HC hl hc ⊢
  clear hn
  go_enter Try.func71, Try.ntmps71
  go_wp2_with fail
  go_loopg [4, 5] n (fun kq v4 v5 w' => v4 = .bool false ∧ ∃ i : Nat, v5 = .int .i64 i ∧ 1 ≤ i ∧ (i ≤ n ∨ i = 1) ∧ n ≤ i + kq ∧ Aside0 (x ∈ L.drop i ↔ x ∈ L.drop 1) ∧ Aside0 (∃ q, w' = w.drewN q))
  case atStart => exact ⟨rfl, 1, rfl, by omega, by omega, by omega, ⟨Iff.rfl⟩, ⟨0, rfl⟩⟩
  case round =>
    obtain ⟨rfl, i, rfl, hi1, hin, hik, HX, ⟨q, rfl⟩⟩ := hrel
    by_cases hi : i < n
    · obtain ⟨kq, rfl⟩ : ∃ q, gk = q + 1 := ⟨gk - 1, by omega⟩
      obtain ⟨ad, rfl, y0⟩ := Kd.at_int (Kd.C_drewN HC.out q) (i : Int) (by omega) (by omega)
      have hiL : i < L.length := by rw [HN.out]; exact hi
      rw [rdI' L i hiL, Int.toNat_natCast] at y0
      have HT := Aside0.mk (show x ∈ L.drop i ↔ x = L[i] ∨ x ∈ L.drop (i + 1) by rw [List.drop_eq_getElem_cons hiL, List.mem_cons])
      obtain ⟨b, hb⟩ : ∃ b, L[i] = b := ⟨_, rfl⟩
      rw [hb] at y0 HT
      clear hb hiL
      by_cases hx : b = x
      · have HR : Aside0 (true = inT x L) := ⟨by rw [HI.out, decide_eq_true (HX.out.1 (HT.out.2 (Or.inl hx.symm)))]⟩
        subst hx
        go_wp2
        go_ret
        exact ⟨by rw [← HR.out]; rfl, q, rfl⟩
      · have hxb : (b == x) = false := by simpa using hx
        have HX2 := Aside0.mk (show x ∈ L.drop (i + 1) ↔ x ∈ L.drop 1 from ⟨fun h => HX.out.1 (HT.out.2 (Or.inr h)), fun h => (HT.out.1 (HX.out.2 h)).elim (fun e => absurd e.symm hx) id⟩)
        clear hx
        go_wp2
        go_roundg kq
        case measure => omega
        case rel => exact ⟨rfl, i + 1, by first | rfl | simp, by omega, by omega, by omega, HX2, ⟨q, rfl⟩⟩
    · have HR : Aside0 (false = inT x L) := ⟨by
        rw [HI.out, decide_eq_false (fun h => by
          have h2 := HX.out.2 h
          rw [List.drop_eq_nil_iff.2 (by rw [HN.out]; omega)] at h2
          cases h2)]⟩
      go_wp2
      go_ret
      exact ⟨by rw [← HR.out]; rfl, q, rfl⟩

theorem any_take (x : Int) (LS : List (List Int)) (q : Nat) (h : q < LS.length) : (LS.take (q + 1)).any (fun L => inT x L) = ((LS.take q).any (fun L => inT x L) || inT x LS[q]) := by
  rw [take_snoc LS q h, List.any_append, List.any_cons, List.any_nil, Bool.or_false]
theorem strip_sub (h : Int) (L : List Int) : ∀ x ∈ strip h L, x ∈ L := by
  cases L with
  | nil => intro x hx; exact hx
  | cons y T =>
    intro x hx
    by_cases e : y = h
    · rw [strip, if_pos e] at hx
      exact List.mem_cons_of_mem _ hx
    · rw [strip, if_neg e] at hx
      exact hx

/-- The blocks below are the same, but for one. -/
def Agree (w : World) (g : Nat) (w' : World) : Prop := w.heap.size ≤ w'.heap.size ∧ ∀ k, k < w.heap.size → k ≠ g → w'.heap[k]? = w.heap[k]?
theorem Agree.alloc (w : World) (g : Nat) (o : Obj) : Agree w g (w.alloc o) := ⟨by simp, fun k hk _ => Below.heap_alloc w o k hk⟩
theorem Agree.grown {w w1 w2 : World} {g : Nat} {row : Option Nat} (h : Agree w g w1) (hg : w1.grownBy w2 row) (hr : ∀ k, row = some k → w.heap.size ≤ k) : Agree w g w2 :=
  ⟨Nat.le_trans h.1 hg.size, fun k hk hne => (hg.block k (Nat.lt_of_lt_of_le hk h.1) (fun e => Nat.lt_irrefl _ (Nat.lt_of_lt_of_le hk (hr k e.symm)))).trans (h.2 k hk hne)⟩
theorem Agree.set {w w1 : World} {g : Nat} (h : Agree w g w1) (q : Nat) (u : Value) : Agree w g (w1.setCell ⟨g, q, none⟩ u) :=
  ⟨by have := h.1; simpa [World.setCell] using this, fun k hk hne => (Below.heap_setCell _ _ _ k hne).trans (h.2 k hk hne)⟩
theorem agree_cell {w w1 : World} {g : Nat} {a : Addr} {v : Value} (h : Agree w g w1) (hne : a.block ≠ g) (hc : w.cell? a = some v) : w1.cell? a = some v := by
  have := h.2 a.block (World.block_lt_of_cell? w a hc) hne
  simpa [World.cell?, this] using hc
theorem agree_C {w w1 : World} {g : Nat} {A : Option Addr} {n : Nat} {L : List Int} (h : Agree w g w1) (hne : ∀ a, A = some a → a.block ≠ g) (hc : (Kd.int .i64).C w A n L) : (Kd.int .i64).C w1 A n L := by
  obtain ⟨e1, e2, e3⟩ := Kd.reads_of_C (enc := Value.int .i64) (d := (0 : Int)) (h1 := fun _ => rfl) hc
  refine Kd.C_of_reads (d := (0 : Int)) (h1 := fun _ => rfl) ⟨e1, e2, fun hn => ?_⟩
  obtain ⟨ad, ea, hcell⟩ := e3 hn
  exact ⟨ad, ea, fun j hj => agree_cell h (by show (ad.add j).block ≠ g; rw [show (ad.add j).block = ad.block by unfold Addr.add; split <;> rfl]; exact hne ad ea) (hcell j hj)⟩
/-- The rows are read, and none lies in block g. -/
def RdN (w : World) (g : Nat) (ss : List SV) (LS : List (List Int)) : Prop := RdAll w ss LS ∧ ∀ i, i < ss.length → ∀ a, (ss.getD i zV).A = some a → a.block ≠ g
theorem RdN.set {w : World} {g : Nat} {ss : List SV} {LS : List (List Int)} {s : SV} {L : List Int} (h : RdN w g ss LS) (i : Nat) (hs : RdL w s L) (hn : ∀ a, s.A = some a → a.block ≠ g) : RdN w g (ss.set i s) (LS.set i L) := by
  refine ⟨h.1.set i hs, fun j hj a ha => ?_⟩
  rw [List.length_set] at hj
  rw [List.getD_eq_getElem?_getD, List.getElem?_set] at ha
  by_cases e : i = j
  · subst e
    rw [if_pos rfl, if_pos hj] at ha
    exact hn a ha
  · rw [if_neg e, ← List.getD_eq_getElem?_getD] at ha
    exact h.2 j hj a ha
theorem tail_slice2 {ad : Addr} {m c : Nat} {x : Int} {T : List Int} {w : World} (h : RdL w ⟨some ad, m + 1, c⟩ (x :: T)) (hm : T.length = m) :
    ∃ A2 c2, (∀ W, (Instr.sliceAt 37 (.slice (some ad) (m + 1) c) (some (.int .i64 1)) none none).run Try.prog W = .ok (.slice A2 m c2) W) ∧ RdL w ⟨A2, m, c2⟩ T ∧ ∀ a, A2 = some a → a.block = ad.block := by
  obtain ⟨h1, h2, h3⟩ := h
  simp only [List.length_cons] at h2
  have hr : ∀ W, (Instr.sliceAt 37 (.slice (some ad) (m + 1) c) (some (.int .i64 1)) none none).run Try.prog W = .ok (sliced (some ad) 1 (m + 1) c 1) W := by
    intro W
    have h1 : (1 : Int) ≤ ((m + 1 : Nat) : Int) := by omega
    rw [run_sliceAt_slice (P := Try.prog) (w := W) 37 _ _ _ _ (by kernel_rfl), run_slice_l (P := Try.prog) (w := W) 37 (some ad) (m + 1) c (by kernel_rfl) .i64 1 (by omega) h1, show Try.prog.elem 37 = 2 from by kernel_rfl, Try.sizeOf2]
    rfl
  by_cases hc : c = 1
  · subst hc
    obtain rfl : m = 0 := by omega
    refine ⟨some ad, 0, fun W => by rw [hr]; rfl, ⟨hm.symm, by omega, ?_⟩, fun a e => by injection e with e; rw [e]⟩
    rw [List.length_eq_zero_iff.1 hm]
    exact Kd.C_of_reads (d := (0 : Int)) (h1 := fun _ => rfl) ⟨rfl, by simp, fun hn => absurd hn (by simp)⟩
  · refine ⟨some (ad.add 1), c - 1, fun W => by rw [hr]; simp [sliced, hc], ⟨hm.symm, (by show T.length ≤ c - 1; omega), C_tail h3⟩, fun a e => by injection e with e; rw [← e]; unfold Addr.add; split <;> rfl⟩

set_option maxHeartbeats 8000000 in
set_option maxRecDepth 1000000 in
theorem l9Merge_calls (gl N cl : Nat) (SS0 : List SV) (LS0 : List (List Int)) (r : List Int) (b : Bool) (k : Nat) (w wi : World) (hSN : SS0.length = N) (hRA : RdN w gl SS0 LS0) (hN : N ≤ 1000000) (hpos : ∀ L ∈ LS0, ∀ x ∈ L, 0 ≤ x) (hlen : ∀ L ∈ LS0, L.length ≤ 1000000000) (hk : k ≤ 1000000) (hm : mS k LS0 [] = some (r, b)) (hB : Below wi.heap.size wi w)
    (hR : Kd.R kV 37 w wi.heap.size (fun _ => True) (.slice (some ⟨gl, 0, none⟩) N cl) SS0) :
    Calls Try.prog 66 #[.slice (some ⟨gl, 0, none⟩) N cl] w fun e w' => ∃ v, e = .returned (.tuple #[v, .bool b]) ∧ Kd.R kI 2 w' wi.heap.size (fun k => w.heap.size ≤ k) v r ∧ Below wi.heap.size wi w' := by
  have HN2 := Aside0.mk hSN
  have HRA := Aside0.mk hRA
  have HPO := Aside0.mk hpos
  have HLL2 := Aside0.mk hlen
  have HMG := Aside0.mk hm
  have HBi := Aside0.mk hB
  have HLS := Aside0.mk hR
  clear hSN hRA hpos hlen hm hB hR
  have hsz0 := HBi.out.size
  go_enter Try.func66, Try.ntmps66
  go_wp2_with fail
  have HLI := Aside0.mk (show Kd.R kI 2 (w.alloc (.cells #[] 2)) wi.heap.size (fun k => w.heap.size ≤ k) (.slice (some ⟨w.heap.size, 0, none⟩) 0 0) [] from Kd.R_of_own (enc := Value.int .i64) (h1 := fun _ => rfl) (own_lit w wi.heap.size 2 .i64 [] hsz0 (by simp)) (fun k hk => by
    simp [Value.ownBlock] at hk
    omega))
  have HLS1 := Aside0.mk (Kd.R_alloc HLS.out (.cells #[] 2))
  have HB1 := Aside0.mk (below_alloc HBi.out (.cells #[] 2))
  have HSZ := Aside0.mk (Agree.alloc w gl (.cells #[] 2))
  clear HLS HBi hsz0
  generalize w.alloc (.cells #[] 2) = W1 at *
  go_loopg [4] k (fun kq v4 w' => ∃ (SS : List SV) (LS : List (List Int)) (line : List Int), Aside0 (SS.length = N) ∧ Aside0 (RdN w gl SS LS) ∧ Aside0 (∀ L ∈ LS, ∀ x ∈ L, 0 ≤ x) ∧ Aside0 (∀ L ∈ LS, L.length ≤ 1000000000) ∧ Aside0 (mS kq LS line = some (r, b)) ∧ Aside0 (line.length + kq ≤ 1000000) ∧ Aside0 (Kd.R kV 37 w' wi.heap.size (fun _ => True) (.slice (some ⟨gl, 0, none⟩) N cl) SS) ∧ Aside0 (Kd.R kI 2 w' wi.heap.size (fun k => w.heap.size ≤ k) v4 line) ∧ Aside0 (Below wi.heap.size wi w') ∧ Aside0 (Agree w gl w'))
  case atStart => exact ⟨SS0, LS0, [], HN2, HRA, HPO, HLL2, HMG, ⟨by simpa using hk⟩, HLS1, HLI, HB1, HSZ⟩
  case round =>
    clear HN2 HRA HPO HLL2 HMG HLS1 HLI HB1 HSZ
    obtain ⟨SS, LS, line, HN2, HRA, HPO, HLL2, HMG, HLF, HLS, HLI, HBi, HSZ⟩ := hrel
    obtain ⟨k3, rfl⟩ : ∃ q, gk = q + 1 := ⟨gk - 1, by
      cases gk with
      | zero => have := HMG.out; simp [mS] at this
      | succ q => omega⟩
    obtain ⟨hd, hhd⟩ : ∃ hd, heads LS LS = hd := ⟨_, rfl⟩
    have HHD := Aside0.mk hhd
    have hmg := HMG.out
    rw [mS, hhd] at hmg
    have HM2 := Aside0.mk hmg
    clear hmg hhd
    have hLSN : LS.length = N := by rw [← HRA.out.1.1, HN2.out]
    have HLSN := Aside0.mk hLSN
    clear hLSN
    go_wp2_with fail
    go_loopg [5, 6, 7] (N + 1) (fun kq4 v5 v6 v7 w' => ∃ p : Nat, v7 = .int .i64 p ∧ p ≤ N ∧ ((v6 = .int .i64 (-1) ∧ p + kq4 = N + 1 ∧ (∃ lf : Bool, v5 = .bool lf ∧ Aside0 (lf = true ↔ ∃ L ∈ LS.take p, L ≠ [])) ∧ Aside0 (heads LS (LS.drop p) = hd)) ∨ (∃ x : Int, v6 = .int .i64 x ∧ 0 ≤ x ∧ v5 = .bool true ∧ hd = some x)) ∧ Aside0 (Kd.R kV 37 w' wi.heap.size (fun _ => True) (.slice (some ⟨gl, 0, none⟩) N cl) SS) ∧ Aside0 (Kd.R kI 2 w' wi.heap.size (fun k => w.heap.size ≤ k) u4 line) ∧ Aside0 (Below wi.heap.size wi w') ∧ Aside0 (Agree w gl w'))
    case atStart => exact ⟨0, rfl, by omega, Or.inl ⟨rfl, by omega, ⟨false, rfl, ⟨by simp⟩⟩, ⟨by rw [List.drop_zero]; exact HHD.out⟩⟩, HLS, HLI, HBi, HSZ⟩
    case round =>
      clear HLS HLI HBi HSZ
      obtain ⟨p, rfl, hpN, hor, HLS, HLI, HBi, HSZ⟩ := hrel
      rcases hor with ⟨rfl, hpk, ⟨lf, rfl, HLFL⟩, HHP⟩ | ⟨x, rfl, hx0, rfl, hdx⟩
      · by_cases hp : p < N
        · obtain ⟨kq4, rfl⟩ : ∃ q, gk = q + 1 := ⟨gk - 1, by omega⟩
          have hpL : p < LS.length := by rw [HLSN.out]; exact hp
          have hpS : p < SS.length := by rw [HN2.out]; exact hp
          obtain ⟨ade, eade, y0⟩ := kV_cell (Kd.R_reads' HLS.out).2.2 rfl p hpS
          obtain rfl := Option.some.inj eade
          have hRp := HRA.out.1.2 p hpS
          have hgp : LS.getD p [] = LS[p] := by rw [List.getD_eq_getElem?_getD, List.getElem?_eq_getElem hpL]; rfl
          rw [hgp] at hRp
          have HNT := Aside0.mk (ne_take hpL)
          have hhp := HHP.out
          rw [List.drop_eq_getElem_cons hpL] at hhp
          have hpo := HPO.out _ (List.getElem_mem hpL)
          have hne1 := HRA.out.2 p hpS
          rw [add_plain] at y0
          generalize SS.getD p zV = sp at *
          obtain ⟨A1, n1, c1⟩ := sp
          simp only at y0
          obtain ⟨hr1, hr2, hr3⟩ := hRp
          simp only at hr1 hr2 hr3
          cases hL : LS[p] with
          | nil =>
            rw [hL] at hr1 HNT hhp
            simp only [List.length_nil] at hr1
            subst hr1
            have HLF2 := Aside0.mk (show lf = true ↔ ∃ L ∈ LS.take (p + 1), L ≠ [] by rw [HNT.out, HLFL.out]; simp)
            have HHP2 := Aside0.mk (show heads LS (LS.drop (p + 1)) = hd from hhp)
            clear hr2 hr3 hhp hgp hpL hpS hL hpo
            go_wp2_with fail
            go_roundg kq4
            case measure => omega
            case rel => exact ⟨p + 1, by first | rfl | simp, by omega, Or.inl ⟨rfl, by omega, ⟨lf, rfl, HLF2⟩, HHP2⟩, HLS, HLI, HBi, HSZ⟩
          | cons x T =>
            rw [hL] at hr1 hr2 hr3 HNT hhp hpo
            have hx0 : 0 ≤ x := hpo x (List.mem_cons_self ..)
            obtain ⟨a1, rfl, z0⟩ := Kd.at_int hr3 0 (by omega) (by simp)
            have z0 := agree_cell HSZ.out (hne1 _ rfl) z0
            rw [show rd (x :: T) 0 = x from rfl] at z0
            (try rw [show (Int.toNat 0) = 0 from rfl, show a1.add 0 = a1 by simp [Addr.add]] at z0)
            have hn1 : n1 = T.length + 1 := by rw [hr1]; simp
            have HLF2 := Aside0.mk (show true = true ↔ ∃ L ∈ LS.take (p + 1), L ≠ [] by rw [HNT.out]; simp)
            have HX := Aside0.mk hhp
            have hpos : 0 < n1 := by omega
            have hne0 : ((n1 : Int) == 0) = false := by simp; omega
            clear hr1 hr2 hr3 hhp hgp hpL hpS hL hpo hn1
            go_wp2_with fail
            go_loopg [9, 10] N (fun kq5 v9 v10 w' => ∃ q : Nat, v10 = .int .i64 q ∧ q + kq5 = N ∧ v9 = .bool (!((LS.take q).any fun L => inT x L)) ∧ Aside0 (Kd.R kV 37 w' wi.heap.size (fun _ => True) (.slice (some ⟨gl, 0, none⟩) N cl) SS) ∧ Aside0 (Kd.R kI 2 w' wi.heap.size (fun k => w.heap.size ≤ k) u4 line) ∧ Aside0 (Below wi.heap.size wi w') ∧ Aside0 (Agree w gl w'))
            case atStart => exact ⟨0, rfl, by omega, by simp, HLS, HLI, HBi, HSZ⟩
            case round =>
              clear HLS HLI HBi HSZ y0 z0
              obtain ⟨q, rfl, hqk, rfl, HLS, HLI, HBi, HSZ⟩ := hrel
              by_cases hq : q < N
              · obtain ⟨kq5, rfl⟩ : ∃ z, gk = z + 1 := ⟨gk - 1, by omega⟩
                have hqL : q < LS.length := by rw [HLSN.out]; exact hq
                have hqS : q < SS.length := by rw [HN2.out]; exact hq
                obtain ⟨ade, eade, y1⟩ := kV_cell (Kd.R_reads' HLS.out).2.2 rfl q hqS
                obtain rfl := Option.some.inj eade
                rw [add_plain] at y1
                have hRq := HRA.out.1.2 q hqS
                have hgq : LS.getD q [] = LS[q] := by rw [List.getD_eq_getElem?_getD, List.getElem?_eq_getElem hqL]; rfl
                rw [hgq] at hRq
                have hne2 := HRA.out.2 q hqS
                have hAT := any_take x LS q hqL
                have hll := HLL2.out _ (List.getElem_mem hqL)
                obtain ⟨L, hL⟩ : ∃ L, LS[q] = L := ⟨_, rfl⟩
                rw [hL] at hRq hAT hll
                obtain ⟨sq, hsq⟩ : ∃ s, SS.getD q zV = s := ⟨_, rfl⟩
                rw [hsq] at hRq y1 hne2
                clear hL hsq hgq hqL hqS
                obtain ⟨A2, n2, c2⟩ := sq
                simp only at y1
                obtain ⟨hr1, hr2, hr3⟩ := hRq
                simp only at hr1 hr2 hr3
                have cT := inTail_calls A2 c2 L x wr (agree_C HSZ.out (fun a e => hne2 a e) hr3) hr2 (by omega)
                rw [← hr1] at cT
                have CT := Aside0.mk cT
                have HAT := Aside0.mk hAT
                clear cT hr1 hr2 hr3 hAT hll
                generalize ((LS.take q).any fun L => inT x L) = g at *
                obtain ⟨bb, hbb⟩ : ∃ bb, inT x L = bb := ⟨_, rfl⟩
                rw [hbb] at CT HAT
                clear hbb
                cases bb with
                | true =>
                  go_wp2_with fail
                  refine CT.out.mono ?_
                  rintro e w1 ⟨rfl, q1, rfl⟩
                  clear CT
                  go_wp2_with fail
                  go_roundg kq5
                  case measure => omega
                  case rel => exact ⟨q + 1, by first | rfl | simp, by omega, by rw [HAT.out]; simp, ⟨Kd.R_drewN HLS.out q1⟩, ⟨Kd.R_drewN HLI.out q1⟩, ⟨pw_below_drewN HBi.out q1⟩, ⟨HSZ.out⟩⟩
                | false =>
                  go_wp2_with fail
                  refine CT.out.mono ?_
                  rintro e w1 ⟨rfl, q1, rfl⟩
                  clear CT
                  go_wp2_with fail
                  go_roundg kq5
                  case measure => omega
                  case rel => exact ⟨q + 1, by first | rfl | simp, by omega, by rw [HAT.out]; simp, ⟨Kd.R_drewN HLS.out q1⟩, ⟨Kd.R_drewN HLI.out q1⟩, ⟨pw_below_drewN HBi.out q1⟩, ⟨HSZ.out⟩⟩
              · have htk : LS.take q = LS := List.take_of_length_le (by rw [HLSN.out]; omega)
                rw [htk]
                have hqN : q = N := by omega
                subst hqN
                clear htk
                obtain ⟨g, hg⟩ : ∃ g, (LS.any fun L => inT x L) = g := ⟨_, rfl⟩
                rw [hg]
                cases g with
                | true =>
                  have HHP2 := Aside0.mk (show heads LS (LS.drop (p + 1)) = hd by rw [← HX.out, heads_in hg])
                  clear hg
                  go_wp2_with fail
                  go_roundg kq4
                  case measure => omega
                  case rel => exact ⟨p + 1, by first | rfl | simp, by omega, Or.inl ⟨rfl, by omega, ⟨true, rfl, ⟨⟨fun _ => HLF2.out.1 (by trivial), fun _ => rfl⟩⟩⟩, HHP2⟩, HLS, HLI, HBi, HSZ⟩
                | false =>
                  have hdx : hd = some x := by rw [← HX.out, heads_out hg]
                  clear hg
                  go_wp2_with fail
                  go_roundg kq4
                  case measure => omega
                  case rel => exact ⟨p + 1, by first | rfl | simp, by omega, Or.inr ⟨x, rfl, hx0, rfl, hdx⟩, HLS, HLI, HBi, HSZ⟩
        · have hdn : hd = none := by
            have h1 := HHP.out
            rw [List.drop_eq_nil_iff.2 (by rw [HLSN.out]; omega)] at h1
            exact h1.symm
          subst hdn
          have hta : LS.take p = LS := List.take_of_length_le (by rw [HLSN.out]; omega)
          have hlf := HLFL.out
          rw [hta] at hlf
          have hm2 := HM2.out
          simp only at hm2
          have hpN2 : p = N := by omega
          subst hpN2
          cases lf with
          | false =>
            have hres : (line, true) = (r, b) := by
              rw [if_pos] at hm2
              · exact Option.some.inj hm2
              · rw [List.all_eq_true]
                intro L hL
                rw [List.isEmpty_iff]
                apply Classical.byContradiction
                intro hne
                have := hlf.2 ⟨L, hL, hne⟩
                cases this
            clear hlf hta hm2 HM2 HMG
            injection hres with e1 e2
            subst e1
            subst e2
            go_wp2
            (try simp only [Exit.inBlock, Exit.then])
            (try rw [Exit.noGoto_ret])
            go_ret2
            exact ⟨_, rfl, HLI.out, HBi.out⟩
          | true =>
            have hres : (([] : List Int), false) = (r, b) := by
              rw [if_neg] at hm2
              · exact Option.some.inj hm2
              · rw [List.all_eq_true]
                intro hall
                obtain ⟨L, hL, hne⟩ := hlf.1 rfl
                exact hne (List.isEmpty_iff.1 (hall L hL))
            clear hlf hta hm2 HM2 HMG
            injection hres with e1 e2
            subst e1
            subst e2
            have hszi := HBi.out.size
            have hszw := HSZ.out.1
            go_wp2
            (try simp only [Exit.inBlock, Exit.then])
            (try rw [Exit.noGoto_ret])
            go_ret2
            exact ⟨_, rfl, Kd.R_of_own (enc := Value.int .i64) (h1 := fun _ => rfl) (own_lit wr wi.heap.size 2 .i64 [] hszi (by simp)) (fun k hk => by
              simp [Value.ownBlock] at hk
              omega), below_alloc HBi.out _⟩
      · rcases Nat.lt_or_ge p N with hp | hp
        · have hpz : (p : Int) < (N : Int) := by omega
          have hxn : ¬ x < 0 := by omega
          subst hdx
          have HM3 := Aside0.mk (show mS k3 (LS.map (strip x)) (line ++ [x]) = some (r, b) from HM2.out)
          have hl1 : (line.length + 1) * 8 ≤ 140737488355328 := by have := HLF.out; omega
          have hszi := HBi.out.size
          have hszw := HSZ.out.1
          go_wp2_with (first | ((with_reducible refine gate_builtin (b := .append) (xs := #[.tmp 55, .tmp 57]) rfl ?_); at_builtin; refine Kd.R_append kI (w0 := wi) wi.heap.size rfl (.tmp 55) (.tmp 57) 37 2 (.int .i64 0) 8 rfl Try.underlying37 info2' rfl (by decide) (by omega) _ line x [.int .i64 x] (fun k => w.heap.size ≤ k) (fun _ => False) rfl rfl ?aP (fun _ hk => hk.elim) (fun _ hk => Nat.le_trans hszw hk) ?aO ?aB ?aS ?aL ?_; (case aP => rfl); (case aB => exact HBi.out); (case aO => exact HLI.out); (case aS => exact hszi); (case aL => exact hl1); intro v1 w1 ho hb hg hat; have HO1 := Aside0.mk ho; have HB1 := Aside0.mk hb; have HG1 := Aside0.mk hg; clear ho hb hg hat))
          have HLS1 := Aside0.mk (Kd.R_over' HLS.out (Kd.R_typed HLI.out) (fun q hq => by rw [List.mem_singleton.1 hq]; decide) HG1.out)
          have HSZ1 := Aside0.mk (HSZ.out.grown HG1.out (fun k hk => HLI.out.1 k hk))
          clear HLS HLI HBi HG1 hszi hl1 hszw HSZ
          go_loopg [11] N (fun kq5 v11 w' => ∃ (q : Nat) (S5 : List SV), v11 = .int .i64 q ∧ q + kq5 = N ∧ Aside0 (S5.length = N) ∧ Aside0 (RdN w gl S5 (midS x LS q)) ∧ Aside0 (Kd.R kV 37 w' wi.heap.size (fun _ => True) (.slice (some ⟨gl, 0, none⟩) N cl) S5) ∧ Aside0 (Kd.R kI 2 w' wi.heap.size (fun k => w.heap.size ≤ k) v1 (line ++ [x])) ∧ Aside0 (Below wi.heap.size wi w') ∧ Aside0 (Agree w gl w'))
          case atStart => exact ⟨0, SS, rfl, by omega, HN2, ⟨by rw [midS_zero]; exact HRA.out⟩, HLS1, HO1, HB1, HSZ1⟩
          case round =>
            clear HLS1 HO1 HB1 HSZ1
            obtain ⟨q, S5, rfl, hqk, HN5, HRA5, HLS5, HO5, HB5, HSZ⟩ := hrel
            by_cases hq : q < N
            · obtain ⟨kq5, rfl⟩ : ∃ z, gk = z + 1 := ⟨gk - 1, by omega⟩
              have hqL : q < LS.length := by rw [HLSN.out]; exact hq
              have hqS : q < S5.length := by rw [HN5.out]; exact hq
              obtain ⟨ade, eade, y1⟩ := kV_cell (Kd.R_reads' HLS5.out).2.2 rfl q hqS
              obtain rfl := Option.some.inj eade
              have hRq := HRA5.out.1.2 q hqS
              rw [midS_at x LS q hqL] at hRq
              rw [add_plain] at y1
              have hKEEP := midS_keep x LS q hqL
              have hSET := midS_set x LS q hqL
              obtain ⟨L, hL⟩ : ∃ L, LS[q] = L := ⟨_, rfl⟩
              rw [hL] at hRq hKEEP hSET
              obtain ⟨sq, hsq⟩ : ∃ s, S5.getD q zV = s := ⟨_, rfl⟩
              have hne2 := HRA5.out.2 q hqS
              rw [hsq] at hRq y1 hne2
              have HKEEP := Aside0.mk hKEEP
              have HSET := Aside0.mk hSET
              have HRQ := Aside0.mk hRq
              clear hL hKEEP hSET hRq hqS hqL hsq
              obtain ⟨A2, n2, c2⟩ := sq
              simp only at y1
              obtain ⟨hr1, hr2, hr3⟩ := HRQ.out
              simp only at hr1 hr2 hr3
              cases L with
              | nil =>
                simp only [List.length_nil] at hr1
                subst hr1
                have HR6 := Aside0.mk (show RdN w gl S5 (midS x LS (q + 1)) by rw [← HKEEP.out rfl]; exact HRA5.out)
                clear hr2 hr3 HKEEP HSET HRQ
                go_wp2_with fail
                go_roundg kq5
                case measure => omega
                case rel => exact ⟨q + 1, S5, by first | rfl | simp, by omega, HN5, HR6, HLS5, HO5, HB5, HSZ⟩
              | cons y T5 =>
                obtain ⟨a2, rfl, u0⟩ := Kd.at_int hr3 0 (by omega) (by simp)
                have u0 := agree_cell HSZ.out (hne2 _ rfl) u0
                rw [show rd (y :: T5) 0 = y from rfl] at u0
                (try rw [show (Int.toNat 0) = 0 from rfl, show a2.add 0 = a2 by simp [Addr.add]] at u0)
                obtain ⟨m, hm⟩ : ∃ m, T5.length = m := ⟨_, rfl⟩
                have hn2 : n2 = m + 1 := by rw [hr1]; simp [hm]
                subst hn2
                obtain ⟨A3, c3, hsl, hT, hbk⟩ := tail_slice2 (T := T5) (x := y) HRQ.out hm
                have HTT := Aside0.mk hT
                have hg1 : decide ((0 : Int) < ((m + 1 : Nat) : Int)) = true := decide_eq_true (by omega)
                have hg2 : decide ((0 : Int) < (m : Int) + 1) = true := decide_eq_true (by omega)
                have hg3 : (0 : Int) < (m : Int) + 1 := by omega
                clear hr1 hr2 hr3 hT HRQ hm
                by_cases hyx : y = x
                · rw [hyx] at u0
                  have HSTR : strip x (y :: T5) = T5 := by simp [strip, hyx]
                  have HR6 := Aside0.mk (show RdN w gl (S5.set q ⟨A3, m, c3⟩) (midS x LS (q + 1)) by rw [← HSET.out, HSTR]; exact HRA5.out.set q HTT.out (fun a e => by rw [hbk a e]; exact hne2 _ rfl))
                  have HN6 := Aside0.mk (show (S5.set q (⟨A3, m, c3⟩ : SV)).length = N by rw [List.length_set]; exact HN5.out)
                  obtain ⟨hc_, hf_⟩ := Kd.R_celln (enc := encV) (h1 := fun _ => rfl) zV HLS5.out (q : Int) (by omega) (by omega)
                  rw [Int.toNat_natCast] at hf_
                  have HALL := Aside0.mk ((⟨Kd.R_putn (enc := encV) (h1 := fun _ => rfl) HLS5.out (q : Int) ⟨A3, m, c3⟩, by
                    obtain ⟨cells, hcl⟩ := Kd.R_typed HLS5.out gl rfl
                    exact Kd.R_set HO5.out (g := gl) (t := 37) (cells := cells) hcl (fun q hq => by rw [List.mem_singleton.1 hq]; decide) q _, below_set HB5.out (Kd.R_base HLS5.out gl rfl), HSZ.out.set q _⟩ : Kd.R kV 37 (wr.setCell ⟨gl, q, none⟩ (.slice A3 m c3)) wi.heap.size (fun _ => True) (.slice (some ⟨gl, 0, none⟩) N cl) (S5.set q ⟨A3, m, c3⟩) ∧ Kd.R kI 2 (wr.setCell ⟨gl, q, none⟩ (.slice A3 m c3)) wi.heap.size (fun k => w.heap.size ≤ k) v1 (line ++ [x]) ∧ Below wi.heap.size wi (wr.setCell ⟨gl, q, none⟩ (.slice A3 m c3)) ∧ Agree w gl (wr.setCell ⟨gl, q, none⟩ (.slice A3 m c3))))
                  clear hyx hc_ HSTR HTT
                  go_wp2_with fail
                  go_roundg kq5
                  case measure => omega
                  case rel => exact ⟨q + 1, S5.set q ⟨A3, m, c3⟩, by first | rfl | simp, by omega, HN6, HR6, ⟨HALL.out.1⟩, ⟨HALL.out.2.1⟩, ⟨HALL.out.2.2.1⟩, ⟨HALL.out.2.2.2⟩⟩
                · have hyb : (y == x) = false := by simpa using hyx
                  have HSTR : strip x (y :: T5) = y :: T5 := by simp [strip, hyx]
                  have HR6 := Aside0.mk (show RdN w gl S5 (midS x LS (q + 1)) by rw [← HKEEP.out HSTR]; exact HRA5.out)
                  clear hyx HSTR HTT hsl HKEEP HSET
                  go_wp2_with fail
                  go_roundg kq5
                  case measure => omega
                  case rel => exact ⟨q + 1, S5, by first | rfl | simp, by omega, HN5, HR6, HLS5, HO5, HB5, HSZ⟩
            · have HR6 := Aside0.mk (show RdN w gl S5 (LS.map (strip x)) by
                have h1 := HRA5.out
                rw [midS_all x LS q (by rw [HLSN.out]; omega)] at h1
                exact h1)
              have hqN : q = N := by omega
              subst hqN
              go_wp2_with fail
              go_roundg k3
              case measure => omega
              case rel => exact ⟨S5, LS.map (strip x), line ++ [x], HN5, HR6, ⟨fun L hL y hy => by
                obtain ⟨L0, h0, rfl⟩ := List.mem_map.1 hL
                exact HPO.out L0 h0 y (strip_sub x L0 y hy)⟩, ⟨fun L hL => by
                obtain ⟨L0, h0, rfl⟩ := List.mem_map.1 hL
                have h1 := HLL2.out L0 h0
                have h2 := strip_len x L0
                omega⟩, HM3, ⟨by
                have h1 := HLF.out
                rw [List.length_append, List.length_singleton]
                omega⟩, HLS5, HO5, HB5, HSZ⟩
        · have hpz : ¬ (p : Int) < (N : Int) := by omega
          have hpeq : p = N := by omega
          clear hp hpN
          subst hpeq
          have hxn : ¬ x < 0 := by omega
          subst hdx
          have HM3 := Aside0.mk (show mS k3 (LS.map (strip x)) (line ++ [x]) = some (r, b) from HM2.out)
          have hl1 : (line.length + 1) * 8 ≤ 140737488355328 := by have := HLF.out; omega
          have hszi := HBi.out.size
          have hszw := HSZ.out.1
          go_wp2_with (first | ((with_reducible refine gate_builtin (b := .append) (xs := #[.tmp 55, .tmp 57]) rfl ?_); at_builtin; refine Kd.R_append kI (w0 := wi) wi.heap.size rfl (.tmp 55) (.tmp 57) 37 2 (.int .i64 0) 8 rfl Try.underlying37 info2' rfl (by decide) (by omega) _ line x [.int .i64 x] (fun k => w.heap.size ≤ k) (fun _ => False) rfl rfl ?aP (fun _ hk => hk.elim) (fun _ hk => Nat.le_trans hszw hk) ?aO ?aB ?aS ?aL ?_; (case aP => rfl); (case aB => exact HBi.out); (case aO => exact HLI.out); (case aS => exact hszi); (case aL => exact hl1); intro v1 w1 ho hb hg hat; have HO1 := Aside0.mk ho; have HB1 := Aside0.mk hb; have HG1 := Aside0.mk hg; clear ho hb hg hat))
          have HLS1 := Aside0.mk (Kd.R_over' HLS.out (Kd.R_typed HLI.out) (fun q hq => by rw [List.mem_singleton.1 hq]; decide) HG1.out)
          have HSZ1 := Aside0.mk (HSZ.out.grown HG1.out (fun k hk => HLI.out.1 k hk))
          clear HLS HLI HBi HG1 hszi hl1 hszw HSZ
          go_loopg [11] p (fun kq5 v11 w' => ∃ (q : Nat) (S5 : List SV), v11 = .int .i64 q ∧ q + kq5 = p ∧ Aside0 (S5.length = p) ∧ Aside0 (RdN w gl S5 (midS x LS q)) ∧ Aside0 (Kd.R kV 37 w' wi.heap.size (fun _ => True) (.slice (some ⟨gl, 0, none⟩) p cl) S5) ∧ Aside0 (Kd.R kI 2 w' wi.heap.size (fun k => w.heap.size ≤ k) v1 (line ++ [x])) ∧ Aside0 (Below wi.heap.size wi w') ∧ Aside0 (Agree w gl w'))
          case atStart => exact ⟨0, SS, rfl, by omega, HN2, ⟨by rw [midS_zero]; exact HRA.out⟩, HLS1, HO1, HB1, HSZ1⟩
          case round =>
            clear HLS1 HO1 HB1 HSZ1
            obtain ⟨q, S5, rfl, hqk, HN5, HRA5, HLS5, HO5, HB5, HSZ⟩ := hrel
            by_cases hq : q < p
            · obtain ⟨kq5, rfl⟩ : ∃ z, gk = z + 1 := ⟨gk - 1, by omega⟩
              have hqL : q < LS.length := by rw [HLSN.out]; exact hq
              have hqS : q < S5.length := by rw [HN5.out]; exact hq
              obtain ⟨ade, eade, y1⟩ := kV_cell (Kd.R_reads' HLS5.out).2.2 rfl q hqS
              obtain rfl := Option.some.inj eade
              have hRq := HRA5.out.1.2 q hqS
              rw [midS_at x LS q hqL] at hRq
              rw [add_plain] at y1
              have hKEEP := midS_keep x LS q hqL
              have hSET := midS_set x LS q hqL
              obtain ⟨L, hL⟩ : ∃ L, LS[q] = L := ⟨_, rfl⟩
              rw [hL] at hRq hKEEP hSET
              obtain ⟨sq, hsq⟩ : ∃ s, S5.getD q zV = s := ⟨_, rfl⟩
              have hne2 := HRA5.out.2 q hqS
              rw [hsq] at hRq y1 hne2
              have HKEEP := Aside0.mk hKEEP
              have HSET := Aside0.mk hSET
              have HRQ := Aside0.mk hRq
              clear hL hKEEP hSET hRq hqS hqL hsq
              obtain ⟨A2, n2, c2⟩ := sq
              simp only at y1
              obtain ⟨hr1, hr2, hr3⟩ := HRQ.out
              simp only at hr1 hr2 hr3
              cases L with
              | nil =>
                simp only [List.length_nil] at hr1
                subst hr1
                have HR6 := Aside0.mk (show RdN w gl S5 (midS x LS (q + 1)) by rw [← HKEEP.out rfl]; exact HRA5.out)
                clear hr2 hr3 HKEEP HSET HRQ
                go_wp2_with fail
                go_roundg kq5
                case measure => omega
                case rel => exact ⟨q + 1, S5, by first | rfl | simp, by omega, HN5, HR6, HLS5, HO5, HB5, HSZ⟩
              | cons y T5 =>
                obtain ⟨a2, rfl, u0⟩ := Kd.at_int hr3 0 (by omega) (by simp)
                have u0 := agree_cell HSZ.out (hne2 _ rfl) u0
                rw [show rd (y :: T5) 0 = y from rfl] at u0
                (try rw [show (Int.toNat 0) = 0 from rfl, show a2.add 0 = a2 by simp [Addr.add]] at u0)
                obtain ⟨m, hm⟩ : ∃ m, T5.length = m := ⟨_, rfl⟩
                have hn2 : n2 = m + 1 := by rw [hr1]; simp [hm]
                subst hn2
                obtain ⟨A3, c3, hsl, hT, hbk⟩ := tail_slice2 (T := T5) (x := y) HRQ.out hm
                have HTT := Aside0.mk hT
                have hg1 : decide ((0 : Int) < ((m + 1 : Nat) : Int)) = true := decide_eq_true (by omega)
                have hg2 : decide ((0 : Int) < (m : Int) + 1) = true := decide_eq_true (by omega)
                have hg3 : (0 : Int) < (m : Int) + 1 := by omega
                clear hr1 hr2 hr3 hT HRQ hm
                by_cases hyx : y = x
                · rw [hyx] at u0
                  have HSTR : strip x (y :: T5) = T5 := by simp [strip, hyx]
                  have HR6 := Aside0.mk (show RdN w gl (S5.set q ⟨A3, m, c3⟩) (midS x LS (q + 1)) by rw [← HSET.out, HSTR]; exact HRA5.out.set q HTT.out (fun a e => by rw [hbk a e]; exact hne2 _ rfl))
                  have HN6 := Aside0.mk (show (S5.set q (⟨A3, m, c3⟩ : SV)).length = p by rw [List.length_set]; exact HN5.out)
                  obtain ⟨hc_, hf_⟩ := Kd.R_celln (enc := encV) (h1 := fun _ => rfl) zV HLS5.out (q : Int) (by omega) (by omega)
                  rw [Int.toNat_natCast] at hf_
                  have HALL := Aside0.mk ((⟨Kd.R_putn (enc := encV) (h1 := fun _ => rfl) HLS5.out (q : Int) ⟨A3, m, c3⟩, by
                    obtain ⟨cells, hcl⟩ := Kd.R_typed HLS5.out gl rfl
                    exact Kd.R_set HO5.out (g := gl) (t := 37) (cells := cells) hcl (fun q hq => by rw [List.mem_singleton.1 hq]; decide) q _, below_set HB5.out (Kd.R_base HLS5.out gl rfl), HSZ.out.set q _⟩ : Kd.R kV 37 (wr.setCell ⟨gl, q, none⟩ (.slice A3 m c3)) wi.heap.size (fun _ => True) (.slice (some ⟨gl, 0, none⟩) p cl) (S5.set q ⟨A3, m, c3⟩) ∧ Kd.R kI 2 (wr.setCell ⟨gl, q, none⟩ (.slice A3 m c3)) wi.heap.size (fun k => w.heap.size ≤ k) v1 (line ++ [x]) ∧ Below wi.heap.size wi (wr.setCell ⟨gl, q, none⟩ (.slice A3 m c3)) ∧ Agree w gl (wr.setCell ⟨gl, q, none⟩ (.slice A3 m c3))))
                  clear hyx hc_ HSTR HTT
                  go_wp2_with fail
                  go_roundg kq5
                  case measure => omega
                  case rel => exact ⟨q + 1, S5.set q ⟨A3, m, c3⟩, by first | rfl | simp, by omega, HN6, HR6, ⟨HALL.out.1⟩, ⟨HALL.out.2.1⟩, ⟨HALL.out.2.2.1⟩, ⟨HALL.out.2.2.2⟩⟩
                · have hyb : (y == x) = false := by simpa using hyx
                  have HSTR : strip x (y :: T5) = y :: T5 := by simp [strip, hyx]
                  have HR6 := Aside0.mk (show RdN w gl S5 (midS x LS (q + 1)) by rw [← HKEEP.out HSTR]; exact HRA5.out)
                  clear hyx HSTR HTT hsl HKEEP HSET
                  go_wp2_with fail
                  go_roundg kq5
                  case measure => omega
                  case rel => exact ⟨q + 1, S5, by first | rfl | simp, by omega, HN5, HR6, HLS5, HO5, HB5, HSZ⟩
            · have HR6 := Aside0.mk (show RdN w gl S5 (LS.map (strip x)) by
                have h1 := HRA5.out
                rw [midS_all x LS q (by rw [HLSN.out]; omega)] at h1
                exact h1)
              have hqN : q = p := by omega
              subst hqN
              go_wp2_with fail
              go_roundg k3
              case measure => omega
              case rel => exact ⟨S5, LS.map (strip x), line ++ [x], HN5, HR6, ⟨fun L hL y hy => by
                obtain ⟨L0, h0, rfl⟩ := List.mem_map.1 hL
                exact HPO.out L0 h0 y (strip_sub x L0 y hy)⟩, ⟨fun L hL => by
                obtain ⟨L0, h0, rfl⟩ := List.mem_map.1 hL
                have h1 := HLL2.out L0 h0
                have h2 := strip_len x L0
                omega⟩, HM3, ⟨by
                have h1 := HLF.out
                rw [List.length_append, List.length_singleton]
                omega⟩, HLS5, HO5, HB5, HSZ⟩

end Go.Proofs.Ytkclfbmgnhmkhaa.PC
