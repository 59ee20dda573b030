/- What l9Lines of the specification comes to. No condition beyond those of the theorems. -/
import Derived.Test.YtkclfbmgnhmkhaaGMrg
namespace Go.Proofs.Ytkclfbmgnhmkhaa.PC
open Go.RowKit Go.Proofs.YtkclfbmgnhmkhaaW.PrintWords Go.Proofs.YtkclfbmgnhmkhaaW.PrintLast Go.Proofs.YtkclfbmgnhmkhaaW.PrintMore
set_option linter.unusedVariables false
set_option linter.unusedSimpArgs false

abbrev kS : Kd (List Int) := Kd.slice 2 (Kd.int .i64)

theorem heads_mem : ∀ (LS l : List (List Int)) (h : Int), heads LS l = some h → ∃ L ∈ l, h ∈ L
  | LS, [], h, e => by simp [heads] at e
  | LS, [] :: r, h, e => by
    obtain ⟨L, hL, hm⟩ := heads_mem LS r h e
    exact ⟨L, List.mem_cons_of_mem _ hL, hm⟩
  | LS, (x :: T) :: r, h, e => by
    rw [heads] at e
    split at e
    · obtain ⟨L, hL, hm⟩ := heads_mem LS r h e
      exact ⟨L, List.mem_cons_of_mem _ hL, hm⟩
    · obtain rfl := Option.some.inj e
      exact ⟨_, List.mem_cons_self .., List.mem_cons_self ..⟩
theorem mS_sub : ∀ (k : Nat) (LS : List (List Int)) (line r : List Int) (b : Bool), mS k LS line = some (r, b) → ∀ x ∈ r, x ∈ line ∨ ∃ L ∈ LS, x ∈ L
  | 0, _, _, _, _, h => by simp [mS] at h
  | k + 1, LS, line, r, b, h => by
    rw [mS] at h
    intro x hx
    split at h
    · rename_i hh e
      rcases mS_sub k _ _ _ _ h x hx with hl | ⟨L, hL, hm⟩
      · rcases List.mem_append.1 hl with hl | hl
        · exact Or.inl hl
        · rw [List.mem_singleton.1 hl]
          exact Or.inr (heads_mem _ _ _ e)
      · obtain ⟨L0, h0, rfl⟩ := List.mem_map.1 hL
        exact Or.inr ⟨L0, h0, strip_sub _ _ _ hm⟩
    · split at h
      · injection h with h
        injection h with h1 h2
        subst h1
        exact Or.inl hx
      · injection h with h
        injection h with h1 h2
        subst h1
        cases hx
theorem mS_len : ∀ (k : Nat) (LS : List (List Int)) (line r : List Int) (b : Bool), mS k LS line = some (r, b) → r.length ≤ line.length + k
  | 0, _, _, _, _, h => by simp [mS] at h
  | k + 1, LS, line, r, b, h => by
    rw [mS] at h
    split at h
    · have := mS_len k _ _ _ _ h
      simp at this
      omega
    · split at h
      · injection h with h
        injection h with h1 h2
        subst h1
        omega
      · injection h with h
        injection h with h1 h2
        subst h1
        simp
def specLine (out : List (List Int)) (i : Nat) (bs : List Int) : Option (List Int) :=
  if bs.any (fun b => (out.getD b.toNat []).isEmpty) = true then some [] else (mS 1000000 (bs.map (fun b => out.getD b.toNat []) ++ [bs]) []).map fun p => if p.2 = true then (i : Int) :: p.1 else []
def specFrom : List S41 → Nat → List (List Int) → Option (List (List Int))
  | [], _, out => some out
  | c :: r, i, out => (specLine out i c.f0).bind fun L => specFrom r (i + 1) (out ++ [L])
def spec_l9Lines.f (l : List S41) : Option (List (List Int)) := if okCls l = true ∧ ∀ c ∈ l, c.f0.length ≤ 1000 then specFrom l 0 [] else none

theorem R_own0 {α : Type} (d : Kd α) (e : Nat) (w : World) (base : Nat) (ok : Nat → Prop) (hb : base ≤ w.heap.size) (hok : ok w.heap.size) : d.R e (w.alloc (.cells #[] e)) base ok (.slice (some ⟨w.heap.size, 0, none⟩) 0 0) [] := by
  refine ⟨fun k hk => ?_, [], ?_, ?_⟩
  · injection hk with hk
    rw [← hk]
    exact hok
  · have h := World.ownsRow_lit (base := base) (e := e) (size := d.sz) w #[] 0 hb (by decide) (by simp)
    simpa using h
  · first | exact Reps.nil | exact .nil | trivial | (simp [Reps])
theorem S_own0 {α : Type} (d : Kd α) (e : Nat) (w : World) (base : Nat) (ok : Nat → Prop) (hb : base ≤ w.heap.size) (hok : ok w.heap.size) : Kd.S d e (w.alloc (.cells #[] e)) base ok (.slice (some ⟨w.heap.size, 0, none⟩) 0 0) [] :=
  ⟨fun _ => 0, R_own0 _ e w base ok hb hok⟩

/-- The header's block is one of numbers. -/
def Ty2 (w : World) (s : SV) : Prop := ∀ a, s.A = some a → ∃ cells, w.heap[a.block]? = some (.cells cells 2 (0, 0))
def RdTy (w : World) (ss : List SV) (LS : List (List Int)) : Prop := RdAll w ss LS ∧ ∀ i, i < ss.length → Ty2 w (ss.getD i zV)
theorem C_blk {w w1 : World} {A : Option Addr} {n : Nat} {L : List Int} (hc : (Kd.int .i64).C w A n L) (hm : ∀ a, A = some a → w1.heap[a.block]? = w.heap[a.block]?) : (Kd.int .i64).C w1 A n L := by
  obtain ⟨e1, e2, e3⟩ := Kd.reads_of_C (enc := Value.int .i64) (d := (0 : Int)) (h1 := fun _ => rfl) hc
  refine Kd.C_of_reads (d := (0 : Int)) (h1 := fun _ => rfl) ⟨e1, e2, fun hn => ?_⟩
  obtain ⟨ad, ea, hcell⟩ := e3 hn
  refine ⟨ad, ea, fun j hj => ?_⟩
  have h := hcell j hj
  have hb : (ad.add j).block = ad.block := by unfold Addr.add; split <;> rfl
  have := hm ad ea
  rw [← hb] at this
  simpa [World.cell?, this] using h
theorem RdTy.move {w w1 : World} {ss : List SV} {LS : List (List Int)} (h : RdTy w ss LS) (hm : ∀ (k : Nat) (cells : Array Value), w.heap[k]? = some (.cells cells 2 (0, 0)) → w1.heap[k]? = w.heap[k]?) : RdTy w1 ss LS := by
  refine ⟨⟨h.1.1, fun i hi => ?_⟩, fun i hi a ha => ?_⟩
  · obtain ⟨h1, h2, h3⟩ := h.1.2 i hi
    exact ⟨h1, h2, C_blk h3 (fun a ha => by
      obtain ⟨cells, hc⟩ := h.2 i hi a ha
      exact hm _ _ hc)⟩
  · obtain ⟨cells, hc⟩ := h.2 i hi a ha
    exact ⟨cells, (hm _ _ hc).trans hc⟩
theorem RdTy.below {w w1 : World} {ss : List SV} {LS : List (List Int)} (h : RdTy w ss LS) (hb : Below w.heap.size w w1) : RdTy w1 ss LS := h.move (fun k cells hk => hb.block k (blk_lt hk))
theorem RdTy.grown {w w1 : World} {ss : List SV} {LS : List (List Int)} {row : Option Nat} (h : RdTy w ss LS) (hg : w.grownBy w1 row) (hr : ∀ k, row = some k → ∀ cells, w.heap[k]? ≠ some (.cells cells 2 (0, 0))) : RdTy w1 ss LS :=
  h.move (fun k cells hk => hg.block k (blk_lt hk) (fun e => hr k e.symm cells hk))
theorem RdTy.snoc {w : World} {ss : List SV} {LS : List (List Int)} {s : SV} {L : List Int} (h : RdTy w ss LS) (hs : RdL w s L) (ht : Ty2 w s) : RdTy w (ss ++ [s]) (LS ++ [L]) := by
  refine ⟨h.1.snoc hs, fun i hi => ?_⟩
  rw [List.length_append, List.length_singleton] at hi
  by_cases e : i < ss.length
  · rw [List.getD_eq_getElem?_getD, List.getElem?_append_left e, ← List.getD_eq_getElem?_getD]
    exact h.2 i e
  · obtain rfl : i = ss.length := by omega
    have e2 : (ss ++ [s]).getD ss.length zV = s := by simp [List.getD_eq_getElem?_getD]
    rw [e2]
    exact ht
theorem RdTy.rdN {w : World} {ss : List SV} {LS : List (List Int)} {g : Nat} {cells : Array Value} (h : RdTy w ss LS) (hg : w.heap[g]? = some (.cells cells 37 (0, 0))) : RdN w g ss LS := by
  refine ⟨h.1, fun i hi a ha e => ?_⟩
  obtain ⟨c2, hc⟩ := h.2 i hi a ha
  rw [e, hg] at hc
  injection hc with hc
  injection hc with _ hc
  cases hc
theorem own_rd {w : World} {base : Nat} {ok : Nat → Prop} {v : Value} {L : List Int} (h : (Kd.int .i64).R 2 w base ok v L) : ∃ A c, v = .slice A L.length c ∧ RdL w ⟨A, L.length, c⟩ L ∧ Ty2 w ⟨A, L.length, c⟩ := by
  obtain ⟨A, c, rfl, hl, hc⟩ := Kd.R_reads h
  refine ⟨A, c, rfl, ⟨rfl, hl, hc⟩, fun a ha => ?_⟩
  exact Kd.R_typed h a.block (by rw [show A = some a from ha]; rfl)
theorem kS_at {w : World} {A : Option Addr} {n : Nat} {xs : List (List Int)} (h : kS.C w A n xs) (i : Nat) (h1 : i < n) :
    ∃ ad A0 c0, A = some ad ∧ w.cell? (ad.add i) = some (.slice A0 (xs.getD i []).length c0) ∧ RdL w ⟨A0, (xs.getD i []).length, c0⟩ (xs.getD i []) := by
  obtain ⟨ad, c, e, _, hK, hc0⟩ := Kd.C_get h ([] : List Int) (i : Int) (by omega) (by omega)
  rw [Int.toNat_natCast] at hK hc0
  obtain ⟨A0, c0, rfl, l0, g0⟩ := hK
  refine ⟨ad, A0, c0, e, ?_, ⟨rfl, l0, g0⟩⟩
  have hq := hc0 0 _ rfl
  rwa [show kS.sz = 1 from rfl, Nat.mul_one, Nat.add_zero] at hq

set_option maxHeartbeats 8000000 in
set_option maxRecDepth 1000000 in
theorem spec_l9Lines.calls (A0 : Option Addr) (c0 : Nat) (l0 : List S41) (r : List (List Int)) (w : World) (hr0 : Kd.C k41 w A0 l0.length l0) (hc0 : l0.length ≤ c0) (h : spec_l9Lines.f l0 = some r) :
    Calls Try.prog 45 #[.slice A0 l0.length c0] w fun e w' => ∃ v, e = .returned v ∧ Kd.S kS 37 w' w.heap.size (fun _ => True) v r ∧ Below w.heap.size w w' := by
  unfold spec_l9Lines.f at h
  split at h
  case isFalse => simp at h
  rename_i hok
  obtain ⟨hok, hsm⟩ := hok
  have HR := Aside0.mk h
  have HOK := Aside0.mk (fun i hi => okCls_base hok i hi)
  have HSM := Aside0.mk hsm
  have HC := Aside0.mk hr0
  have hlen : l0.length ≤ 200 := by
    unfold okCls at hok
    rw [Bool.and_eq_true, decide_eq_true_eq] at hok
    exact hok.1
  clear h hok hsm hr0
  obtain ⟨n, hn⟩ : ∃ n, l0.length = n := ⟨_, rfl⟩
  have HN := Aside0.mk hn
  rw [hn] at HC hlen hc0 ⊢
  clear hn
  go_enter Try.func45, Try.ntmps45
  go_wp2_with fail
  have HO0 := Aside0.mk (S_own0 kS 37 w w.heap.size (fun _ => True) (Nat.le_refl _) trivial)
  have HB0 := Aside0.mk (below_alloc (Below.refl w.heap.size w) (.cells #[] 37))
  generalize w.alloc (.cells #[] 37) = W0 at *
  go_loopg [3, 4] n (fun kq v3 v4 w' => ∃ (i : Nat) (out : List (List Int)), v4 = .int .i64 i ∧ i + kq = n ∧ Aside0 (out.length = i) ∧ Aside0 (specFrom (l0.drop i) i out = some r) ∧ Aside0 (∀ L ∈ out, L.length ≤ 1000001 ∧ ∀ x ∈ L, 0 ≤ x) ∧ Aside0 (Kd.S kS 37 w' w.heap.size (fun _ => True) v3 out) ∧ Aside0 (Below w.heap.size w w'))
  case atStart => exact ⟨0, [], rfl, by omega, ⟨rfl⟩, ⟨by rw [List.drop_zero]; exact HR.out⟩, ⟨by simp⟩, HO0, HB0⟩
  case round =>
    clear HR HO0 HB0
    obtain ⟨i, out, rfl, hik, HOL, HR, HLL, HO, HB⟩ := hrel
    by_cases hi : i < n
    · obtain ⟨kq, rfl⟩ : ∃ q, gk = q + 1 := ⟨gk - 1, by omega⟩
      have hiL : i < l0.length := by rw [HN.out]; exact hi
      obtain ⟨_, hbr, hbn⟩ := HOK.out i hiL
      have hbl := HSM.out _ (List.getElem_mem hiL)
      have hrr := HR.out
      rw [List.drop_eq_getElem_cons hiL, specFrom] at hrr
      have hxx := fun W (hW : Below w.heap.size w W) => at_T41 (Kd.C_below HC.out hW) (i : Int) (by omega) (by omega)
      simp only [rd41 l0 i hiL, Int.toNat_natCast] at hxx
      obtain ⟨C, hC⟩ : ∃ C, l0[i] = C := ⟨_, rfl⟩
      simp only [hC] at hxx
      rw [hC] at hbr hbn hbl hrr
      obtain ⟨bs, as_⟩ := C
      simp only at hxx hbr hbn hbl hrr
      obtain ⟨LN, hLN, hrr⟩ := Option.bind_eq_some_iff.1 hrr
      have HLN := Aside0.mk hLN
      have HRR := Aside0.mk hrr
      have HBR := Aside0.mk hbr
      have HXX := Aside0.mk hxx
      clear hC hiL hrr hbr hbn hLN hxx
      obtain ⟨nb, hnb⟩ : ∃ nb, bs.length = nb := ⟨_, rfl⟩
      have HNB := Aside0.mk hnb
      rw [hnb] at HXX hbl
      clear hnb
      obtain ⟨Ao, co, rfl⟩ := Kd.S_slice HO.out
      go_wp2_with fail
      generalize wr = wi at *
      have hszw := HB.out.size
      have HOC := Aside0.mk (Kd.S_reads' HO.out).2.2
      have HLS0 := Aside0.mk (R_own0 kV 37 wi wi.heap.size (fun _ => True) (Nat.le_refl _) trivial)
      have HBi0 := Aside0.mk (below_alloc (Below.refl wi.heap.size wi) (.cells #[] 37))
      generalize wi.alloc (.cells #[] 37) = W1 at *
      go_loopg [5, 6, 7] nb (fun kq2 v5 v6 v7 w' => ∃ (j : Nat) (ss : List SV) (g : Bool), v7 = .int .i64 j ∧ j + kq2 = nb ∧ Aside0 (ss.length = j) ∧ v6 = .bool (!g) ∧ Aside0 (((bs.take j).any fun b => (out.getD b.toNat []).isEmpty) = g) ∧ Aside0 (RdTy w' ss ((bs.take j).map fun b => out.getD b.toNat [])) ∧ Aside0 (Kd.R kV 37 w' wi.heap.size (fun _ => True) v5 ss) ∧ Aside0 (Below wi.heap.size wi w'))
      case atStart => exact ⟨0, [], false, rfl, by omega, ⟨rfl⟩, rfl, ⟨rfl⟩, ⟨⟨rfl, by simp⟩, by simp⟩, HLS0, HBi0⟩
      case round =>
        clear HLS0 HBi0
        obtain ⟨j, ss, g, rfl, hjk, HSL, rfl, HG, HRA, HLS, HBi⟩ := hrel
        obtain ⟨ad, B0, d0, B1, d1, rfl, x0, x1, e0, g0, _, _⟩ := HXX.out wr (below_step HB.out HBi.out)
        by_cases hj : j < nb
        · obtain ⟨kq2, rfl⟩ : ∃ q, gk = q + 1 := ⟨gk - 1, by omega⟩
          obtain ⟨ae, rfl, y0⟩ := Kd.at_int g0 (j : Int) (by omega) (by omega)
          have hjL : j < bs.length := by rw [HNB.out]; exact hj
          rw [rdI bs j hjL, Int.toNat_natCast] at y0
          have HT := Aside0.mk (take_snoc bs j hjL)
          have hbm := HBR.out _ (List.getElem_mem hjL)
          obtain ⟨b, hb⟩ : ∃ b : Nat, bs[j] = (b : Int) := ⟨(bs[j]).toNat, by omega⟩
          rw [hb] at y0 HT hbm
          have hbi : b < out.length := by rw [HOL.out]; omega
          obtain ⟨ao, A1, c1, rfl, z0, z1⟩ := kS_at HOC.out b hbi
          have z0 := pw_cell_below HBi.out z0
          have z1 := z1.below HBi.out
          have HE := Aside0.mk (show (out.getD ((b : Int)).toNat [] : List Int) = out.getD b [] by rw [Int.toNat_natCast])
          have hbL : (out.getD b []).length ≤ 1000001 := by
            rw [List.getD_eq_getElem?_getD, List.getElem?_eq_getElem hbi]
            exact (HLL.out _ (List.getElem_mem hbi)).1
          obtain ⟨L, hL⟩ : ∃ L, out.getD b [] = L := ⟨_, rfl⟩
          rw [hL] at HE z0 z1 hbL
          have HZ1 := Aside0.mk z1
          have hdL : decide ((0 : Int) < (L.length : Int)) = !L.isEmpty := by cases L <;> simp
          have HDL := Aside0.mk hdL
          have HG2 := Aside0.mk (show ((bs.take (j + 1)).any fun b => (out.getD b.toNat []).isEmpty) = (g || L.isEmpty) by
            rw [HT.out, List.any_append, HG.out, List.any_cons, List.any_nil, Bool.or_false, HE.out])
          have HTM := Aside0.mk (show ((bs.take (j + 1)).map fun b => out.getD b.toNat []) = ((bs.take j).map fun b => out.getD b.toNat []) ++ [L] by
            rw [HT.out, List.map_append, List.map_cons, List.map_nil, HE.out])
          have hi2 : b < i := by rw [← HOL.out]; exact hbi
          have hol : (out.length : Int) = (i : Int) := by rw [HOL.out]
          clear hL hb hjL z1 g0 hdL
          cases g with
          | true =>
            have hszi := HBi.out.size
            have HCR := Aside0.mk (Kd.C_below HZ1.out.2.2 (below_alloc (Below.refl wr.heap.size wr) (.cells #[] 2)))
            have HOa := Aside0.mk (R_own0 kI 2 wr wi.heap.size (fun k => wr.heap.size ≤ k) hszi (Nat.le_refl _))
            have HBa := Aside0.mk (below_alloc HBi.out (.cells #[] 2))
            have hsza := HBa.out.size
            have HLSa := Aside0.mk (Kd.R_alloc HLS.out (.cells #[] 2))
            have hl1 : (j + 1) * 24 ≤ 140737488355328 := by omega
            have hl2 : (L.length) * 8 ≤ 140737488355328 := by omega
            go_wp2_with (first | ((with_reducible refine gate_builtin (b := .append) (xs := #[.tmp 47, .tmp 48]) rfl ?_); at_builtin; refine Kd.R_append_rows kI (Rr := kI.K (wr.alloc (.cells #[] 2))) (w0 := wi) wi.heap.size rfl (.tmp 47) (.tmp 48) 37 2 (.int .i64 0) 8 rfl Try.underlying37 info2' rfl (by decide) (by omega) (.slice (some ⟨wr.heap.size, 0, none⟩) 0 0) [] L A1 L.length c1 (fun k => wr.heap.size ≤ k) (fun _ => False) rfl rfl ?aO ?aR (fun _ _ h => h) (fun _ hk => hk.elim) (fun k hk => by simp at hk; omega) ?aB ?aS ?aL ?_; (case aB => exact HBa.out); (case aO => exact HOa.out); (case aR => exact HCR.out); (case aS => exact hsza); (case aL => simpa using hl2); intro v1 w1 ho hb hg hat; rw [List.nil_append] at ho; obtain ⟨A2, c2, rfl, hrd, hty⟩ := own_rd ho; have HLS1 := Aside0.mk (Kd.R_over' HLSa.out (Kd.R_typed HOa.out) (fun q hq => by rw [List.mem_singleton.1 hq]; decide) hg); have HRA2 := Aside0.mk ((HRA.out.move (fun k cells hk => (hg.block k (by have h5 := blk_lt hk; simp; omega) (fun e => by have h5 := blk_lt hk; have e2 : k = wr.heap.size := Option.some.inj e; omega)).trans (Below.heap_alloc wr _ k (blk_lt hk)))).snoc hrd hty); have HB1 := Aside0.mk hb; have hsz1 := HB1.out.size; clear HLS HRA HBi HLSa HOa HCR HBa ho hb hg hat hrd hty) | ((with_reducible refine gate_builtin (b := .append) (xs := #[.tmp 46, .tmp 50]) rfl ?_); at_builtin; refine Kd.R_append kV (w0 := wi) wi.heap.size rfl (.tmp 46) (.tmp 50) 34 37 (.slice none 0 0) 24 rfl Try.underlying34 info37 rfl (by decide) (by omega) _ ss ⟨A2, L.length, c2⟩ [.slice A2 L.length c2] (fun _ => True) (fun _ => False) rfl rfl ?aP (fun _ hk => hk.elim) (fun _ _ => trivial) ?aO ?aB ?aS ?aL ?_; (case aP => exact kV_mk _ _ _ ⟨A2, L.length, c2⟩); (case aB => exact HB1.out); (case aO => exact HLS1.out); (case aS => exact hsz1); (case aL => rw [HSL.out]; exact hl1); intro v3 w3 ho hb hg hat; have HRA3 := Aside0.mk (HRA2.out.grown hg (fun k hk cells hc => by obtain ⟨c5, h5⟩ := Kd.R_typed HLS1.out k hk; rw [h5] at hc; injection hc with hc; injection hc with _ hc; cases hc)); have HO3 := Aside0.mk ho; have HB3 := Aside0.mk hb; clear ho hb hg hat HRA2 HLS1 HB1))
            go_roundg kq2
            case measure => omega
            case rel => exact ⟨j + 1, ss ++ [⟨A2, L.length, c2⟩], true, by first | rfl | simp, by omega, ⟨by rw [List.length_append, HSL.out]; rfl⟩, rfl, ⟨by rw [HG2.out]; rfl⟩, ⟨by rw [HTM.out]; exact HRA3.out⟩, HO3, HB3⟩
          | false =>
            have hszi := HBi.out.size
            have HCR := Aside0.mk (Kd.C_below HZ1.out.2.2 (below_alloc (Below.refl wr.heap.size wr) (.cells #[] 2)))
            have HOa := Aside0.mk (R_own0 kI 2 wr wi.heap.size (fun k => wr.heap.size ≤ k) hszi (Nat.le_refl _))
            have HBa := Aside0.mk (below_alloc HBi.out (.cells #[] 2))
            have hsza := HBa.out.size
            have HLSa := Aside0.mk (Kd.R_alloc HLS.out (.cells #[] 2))
            have hl1 : (j + 1) * 24 ≤ 140737488355328 := by omega
            have hl2 : (L.length) * 8 ≤ 140737488355328 := by omega
            go_wp2_with (first | ((with_reducible refine gate_builtin (b := .append) (xs := #[.tmp 47, .tmp 48]) rfl ?_); at_builtin; refine Kd.R_append_rows kI (Rr := kI.K (wr.alloc (.cells #[] 2))) (w0 := wi) wi.heap.size rfl (.tmp 47) (.tmp 48) 37 2 (.int .i64 0) 8 rfl Try.underlying37 info2' rfl (by decide) (by omega) (.slice (some ⟨wr.heap.size, 0, none⟩) 0 0) [] L A1 L.length c1 (fun k => wr.heap.size ≤ k) (fun _ => False) rfl rfl ?aO ?aR (fun _ _ h => h) (fun _ hk => hk.elim) (fun k hk => by simp at hk; omega) ?aB ?aS ?aL ?_; (case aB => exact HBa.out); (case aO => exact HOa.out); (case aR => exact HCR.out); (case aS => exact hsza); (case aL => simpa using hl2); intro v1 w1 ho hb hg hat; rw [List.nil_append] at ho; obtain ⟨A2, c2, rfl, hrd, hty⟩ := own_rd ho; have HLS1 := Aside0.mk (Kd.R_over' HLSa.out (Kd.R_typed HOa.out) (fun q hq => by rw [List.mem_singleton.1 hq]; decide) hg); have HRA2 := Aside0.mk ((HRA.out.move (fun k cells hk => (hg.block k (by have h5 := blk_lt hk; simp; omega) (fun e => by have h5 := blk_lt hk; have e2 : k = wr.heap.size := Option.some.inj e; omega)).trans (Below.heap_alloc wr _ k (blk_lt hk)))).snoc hrd hty); have HB1 := Aside0.mk hb; have hsz1 := HB1.out.size; clear HLS HRA HBi HLSa HOa HCR HBa ho hb hg hat hrd hty) | ((with_reducible refine gate_builtin (b := .append) (xs := #[.tmp 46, .tmp 50]) rfl ?_); at_builtin; refine Kd.R_append kV (w0 := wi) wi.heap.size rfl (.tmp 46) (.tmp 50) 34 37 (.slice none 0 0) 24 rfl Try.underlying34 info37 rfl (by decide) (by omega) _ ss ⟨A2, L.length, c2⟩ [.slice A2 L.length c2] (fun _ => True) (fun _ => False) rfl rfl ?aP (fun _ hk => hk.elim) (fun _ _ => trivial) ?aO ?aB ?aS ?aL ?_; (case aP => exact kV_mk _ _ _ ⟨A2, L.length, c2⟩); (case aB => exact HB1.out); (case aO => exact HLS1.out); (case aS => exact hsz1); (case aL => rw [HSL.out]; exact hl1); intro v3 w3 ho hb hg hat; have HRA3 := Aside0.mk (HRA2.out.grown hg (fun k hk cells hc => by obtain ⟨c5, h5⟩ := Kd.R_typed HLS1.out k hk; rw [h5] at hc; injection hc with hc; injection hc with _ hc; cases hc)); have HO3 := Aside0.mk ho; have HB3 := Aside0.mk hb; clear ho hb hg hat HRA2 HLS1 HB1))
            go_roundg kq2
            case measure => omega
            case rel => exact ⟨j + 1, ss ++ [⟨A2, L.length, c2⟩], L.isEmpty, by first | rfl | simp, by omega, ⟨by rw [List.length_append, HSL.out]; rfl⟩, by first | rfl | (rw [← HDL.out]; done) | (rw [← HDL.out]; rfl) | (rw [← HDL.out]; simp) | (cases L <;> simp), ⟨by rw [HG2.out]; rfl⟩, ⟨by rw [HTM.out]; exact HRA3.out⟩, HO3, HB3⟩
        · have hjn : j = nb := by omega
          subst hjn
          have hallb : bs.take j = bs := by rw [← HNB.out, List.take_length]
          have HG2 := Aside0.mk (show (bs.any fun b => (out.getD b.toNat []).isEmpty) = g by rw [← HG.out, hallb])
          have HRA := Aside0.mk (show RdTy wr ss (bs.map fun b => out.getD b.toNat []) by have := HRA.out; rwa [hallb] at this)
          have G0 := Aside0.mk g0
          have x0a := pw_cell_below (below_alloc (Below.refl wr.heap.size wr) (.cells #[] 2)) x0
          have hjle : j ≤ 1000 := hbl
          have HLI0 := HLN.out
          clear hallb HG g0
          have HOLT := Aside0.mk (Kd.S_lt HO.out)
          cases g with
          | true =>
            have HEQ : Aside0 (LN = []) := ⟨by
              unfold specLine at HLI0
              rw [if_pos HG2.out] at HLI0
              exact (Option.some.inj HLI0).symm⟩
            clear HLI0
            have hszi := HBi.out.size
            have HCR := Aside0.mk (Kd.C_below G0.out (below_alloc (Below.refl wr.heap.size wr) (.cells #[] 2)))
            have HOa := Aside0.mk (R_own0 kI 2 wr wi.heap.size (fun k => wr.heap.size ≤ k) hszi (Nat.le_refl _))
            have HBa := Aside0.mk (below_alloc HBi.out (.cells #[] 2))
            have hsza := HBa.out.size
            have HLSa := Aside0.mk (Kd.R_alloc HLS.out (.cells #[] 2))
            have hl1 : (j + 1) * 24 ≤ 140737488355328 := by omega
            have hl2 : (j) * 8 ≤ 140737488355328 := by omega
            go_wp2_with (first | ((with_reducible refine gate_builtin (b := .append) (xs := #[.tmp 53, .tmp 58]) rfl ?_); at_builtin; refine Kd.R_append_rows kI (Rr := kI.K (wr.alloc (.cells #[] 2))) (w0 := wi) wi.heap.size rfl (.tmp 53) (.tmp 58) 37 2 (.int .i64 0) 8 rfl Try.underlying37 info2' rfl (by decide) (by omega) (.slice (some ⟨wr.heap.size, 0, none⟩) 0 0) [] bs B0 j d0 (fun k => wr.heap.size ≤ k) (fun _ => False) rfl rfl ?aO ?aR (fun _ _ h => h) (fun _ hk => hk.elim) (fun k hk => by simp at hk; omega) ?aB ?aS ?aL ?_; (case aB => exact HBa.out); (case aO => exact HOa.out); (case aR => exact HCR.out); (case aS => exact hsza); (case aL => simpa using hl2); intro v1 w1 ho hb hg hat; rw [List.nil_append] at ho; obtain ⟨A2, c2, rfl, hrd, hty⟩ := own_rd ho; have HLS1 := Aside0.mk (Kd.R_over' HLSa.out (Kd.R_typed HOa.out) (fun q hq => by rw [List.mem_singleton.1 hq]; decide) hg); have HRA2 := Aside0.mk ((HRA.out.move (fun k cells hk => (hg.block k (by have h5 := blk_lt hk; simp; omega) (fun e => by have h5 := blk_lt hk; have e2 : k = wr.heap.size := Option.some.inj e; omega)).trans (Below.heap_alloc wr _ k (blk_lt hk)))).snoc hrd hty); have HB1 := Aside0.mk hb; have hsz1 := HB1.out.size; clear HLS HRA HBi HLSa HOa HCR HBa ho hb hg hat hrd hty) | ((with_reducible refine gate_builtin (b := .append) (xs := #[.tmp 52, .tmp 60]) rfl ?_); at_builtin; refine Kd.R_append kV (w0 := wi) wi.heap.size rfl (.tmp 52) (.tmp 60) 34 37 (.slice none 0 0) 24 rfl Try.underlying34 info37 rfl (by decide) (by omega) _ ss ⟨A2, bs.length, c2⟩ [.slice A2 bs.length c2] (fun _ => True) (fun _ => False) rfl rfl ?aP (fun _ hk => hk.elim) (fun _ _ => trivial) ?aO ?aB ?aS ?aL ?_; (case aP => exact kV_mk _ _ _ ⟨A2, bs.length, c2⟩); (case aB => exact HB1.out); (case aO => exact HLS1.out); (case aS => exact hsz1); (case aL => rw [HSL.out]; exact hl1); intro v3 w3 ho hb hg hat; have HRA3 := Aside0.mk (HRA2.out.grown hg (fun k hk cells hc => by obtain ⟨c5, h5⟩ := Kd.R_typed HLS1.out k hk; rw [h5] at hc; injection hc with hc; injection hc with _ hc; cases hc)); have HO3 := Aside0.mk ho; have HB3 := Aside0.mk hb; clear ho hb hg hat HRA2 HLS1 HB1) | ((with_reducible refine gate_builtin (b := .append) (xs := #[.tmp 64, .tmp 66]) rfl ?_); at_builtin; refine Kd.S_append kS (w0 := w) w.heap.size rfl (.tmp 64) (.tmp 66) 34 37 (.slice none 0 0) 24 rfl Try.underlying34 info37 rfl (by decide) (by omega) (.slice Ao out.length co) out [] [.slice (some ⟨w3.heap.size, 0, none⟩) 0 0] (fun _ => True) (fun k => wi.heap.size ≤ k) rfl ?ax ?aP (fun k hk => ⟨trivial, fun e => Nat.not_lt.2 hk (HOLT.out k e.symm)⟩) (fun _ _ => trivial) ?aO ?aB ?aS ?aL ?_; (case ax => rw [show (w3.alloc (.cells #[] 2)).heap.size = w3.heap.size + 1 by simp]; rfl); (case aP => exact ⟨_, rfl, R_own0 kI 2 w3 w.heap.size (fun k => wi.heap.size ≤ k) (Nat.le_trans hszw HB3.out.size) HB3.out.size⟩); (case aB => exact below_alloc (below_step HB.out HB3.out) _); (case aO => exact Kd.S_mono (ok' := fun k => True ∧ ¬ wi.heap.size ≤ k) (Kd.S_old HO.out (below_alloc HB3.out _)) (fun _ hk => ⟨trivial, Nat.not_le.2 hk.2⟩)); (case aS => exact (below_alloc (below_step HB.out HB3.out) (.cells #[] 2)).size); (case aL => have := HOL.out; omega); intro v9 w9 ho hb hg hat; have HO9 := Aside0.mk ho; have HB9 := Aside0.mk hb; clear ho hb hg hat))
            go_roundg kq
            case measure => omega
            case rel => exact ⟨i + 1, out ++ [[]], by first | rfl | simp, by omega, ⟨by rw [List.length_append, HOL.out]; rfl⟩, ⟨by rw [← HEQ.out]; exact HRR.out⟩, ⟨fun L hL => by
              rcases List.mem_append.1 hL with hL | hL
              · exact HLL.out L hL
              · rw [List.mem_singleton.1 hL]; simp⟩, HO9, HB9⟩
          | false =>
            have hmp : ∃ p, mS 1000000 (bs.map (fun b => out.getD b.toNat []) ++ [bs]) [] = some p ∧ (if p.2 = true then (i : Int) :: p.1 else []) = LN := by
              unfold specLine at HLI0
              rw [if_neg (by rw [HG2.out]; decide)] at HLI0
              exact Option.map_eq_some_iff.1 HLI0
            obtain ⟨⟨rM, bM⟩, hM1, hM2⟩ := hmp
            have HM1 := Aside0.mk hM1
            have HM2 := Aside0.mk hM2
            clear HLI0 hM1 hM2
            have hszi := HBi.out.size
            have HCR := Aside0.mk (Kd.C_below G0.out (below_alloc (Below.refl wr.heap.size wr) (.cells #[] 2)))
            have HOa := Aside0.mk (R_own0 kI 2 wr wi.heap.size (fun k => wr.heap.size ≤ k) hszi (Nat.le_refl _))
            have HBa := Aside0.mk (below_alloc HBi.out (.cells #[] 2))
            have hsza := HBa.out.size
            have HLSa := Aside0.mk (Kd.R_alloc HLS.out (.cells #[] 2))
            have hl1 : (j + 1) * 24 ≤ 140737488355328 := by omega
            have hl2 : (j) * 8 ≤ 140737488355328 := by omega
            go_wp2_with (first | ((with_reducible refine gate_builtin (b := .append) (xs := #[.tmp 53, .tmp 58]) rfl ?_); at_builtin; refine Kd.R_append_rows kI (Rr := kI.K (wr.alloc (.cells #[] 2))) (w0 := wi) wi.heap.size rfl (.tmp 53) (.tmp 58) 37 2 (.int .i64 0) 8 rfl Try.underlying37 info2' rfl (by decide) (by omega) (.slice (some ⟨wr.heap.size, 0, none⟩) 0 0) [] bs B0 j d0 (fun k => wr.heap.size ≤ k) (fun _ => False) rfl rfl ?aO ?aR (fun _ _ h => h) (fun _ hk => hk.elim) (fun k hk => by simp at hk; omega) ?aB ?aS ?aL ?_; (case aB => exact HBa.out); (case aO => exact HOa.out); (case aR => exact HCR.out); (case aS => exact hsza); (case aL => simpa using hl2); intro v1 w1 ho hb hg hat; rw [List.nil_append] at ho; obtain ⟨A2, c2, rfl, hrd, hty⟩ := own_rd ho; have HLS1 := Aside0.mk (Kd.R_over' HLSa.out (Kd.R_typed HOa.out) (fun q hq => by rw [List.mem_singleton.1 hq]; decide) hg); have HRA2 := Aside0.mk ((HRA.out.move (fun k cells hk => (hg.block k (by have h5 := blk_lt hk; simp; omega) (fun e => by have h5 := blk_lt hk; have e2 : k = wr.heap.size := Option.some.inj e; omega)).trans (Below.heap_alloc wr _ k (blk_lt hk)))).snoc hrd hty); have HB1 := Aside0.mk hb; have hsz1 := HB1.out.size; clear HLS HRA HBi HLSa HOa HCR HBa ho hb hg hat hrd hty) | ((with_reducible refine gate_builtin (b := .append) (xs := #[.tmp 52, .tmp 60]) rfl ?_); at_builtin; refine Kd.R_append kV (w0 := wi) wi.heap.size rfl (.tmp 52) (.tmp 60) 34 37 (.slice none 0 0) 24 rfl Try.underlying34 info37 rfl (by decide) (by omega) _ ss ⟨A2, bs.length, c2⟩ [.slice A2 bs.length c2] (fun _ => True) (fun _ => False) rfl rfl ?aP (fun _ hk => hk.elim) (fun _ _ => trivial) ?aO ?aB ?aS ?aL ?_; (case aP => exact kV_mk _ _ _ ⟨A2, bs.length, c2⟩); (case aB => exact HB1.out); (case aO => exact HLS1.out); (case aS => exact hsz1); (case aL => rw [HSL.out]; exact hl1); intro v3 w3 ho hb hg hat; have hNl : (ss ++ [(⟨A2, bs.length, c2⟩ : SV)]).length = j + 1 := (by rw [List.length_append, HSL.out]; rfl); obtain ⟨gl, cl, rfl, _, _, _⟩ := Kd.R_form ho (by simp); rw [hNl] at ho ⊢; have HRA3 := Aside0.mk (HRA2.out.grown hg (fun k hk cells hc => by obtain ⟨c5, h5⟩ := Kd.R_typed HLS1.out k hk; rw [h5] at hc; injection hc with hc; injection hc with _ hc; cases hc)); have HO3 := Aside0.mk ho; have HB3 := Aside0.mk hb; clear ho hb hg hat HRA2 HLS1 HB1))
            have hpos : ∀ L ∈ bs.map (fun b => out.getD b.toNat []) ++ [bs], L.length ≤ 1000000000 ∧ ∀ x ∈ L, 0 ≤ x := fun L hL => by
              rcases List.mem_append.1 hL with hL | hL
              · obtain ⟨b, hb, rfl⟩ := List.mem_map.1 hL
                rw [List.getD_eq_getElem?_getD]
                cases hc : out[b.toNat]? with
                | none => simp
                | some L =>
                  have h5 := HLL.out L (List.mem_of_getElem? hc)
                  exact ⟨by have := h5.1; simp; omega, fun x hx => h5.2 x (by simpa using hx)⟩
              · rw [List.mem_singleton.1 hL]
                exact ⟨by rw [HNB.out]; omega, fun x hx => (HBR.out x hx).1⟩
            obtain ⟨c7, h7⟩ := Kd.R_typed HO3.out gl rfl
            refine (l9Merge_calls gl (j + 1) cl (ss ++ [⟨A2, bs.length, c2⟩]) (bs.map (fun b => out.getD b.toNat []) ++ [bs]) rM bM 1000000 w3 wi hNl (HRA3.out.rdN h7) (by omega) (fun L hL => (hpos L hL).2) (fun L hL => (hpos L hL).1) (Nat.le_refl _) HM1.out HB3.out HO3.out).mono ?_
            rintro e w4 ⟨vm, rfl, hRm, hbm⟩
            have HRm := Aside0.mk hRm
            have HB4 := Aside0.mk hbm
            have HRS := Aside0.mk (mS_sub _ _ _ _ _ HM1.out)
            have HRL := Aside0.mk (mS_len _ _ _ _ _ HM1.out)
            have HPO := Aside0.mk hpos
            clear hRm hbm hpos h7 HO3 HRA3
            cases bM with
            | false =>
              have HEQ : Aside0 (LN = []) := ⟨HM2.out.symm⟩
              go_wp2_with (first  | ((with_reducible refine gate_builtin (b := .append) (xs := #[.tmp 75, .tmp 77]) rfl ?_); at_builtin; refine Kd.S_append kS (w0 := w) w.heap.size rfl (.tmp 75) (.tmp 77) 34 37 (.slice none 0 0) 24 rfl Try.underlying34 info37 rfl (by decide) (by omega) (.slice Ao out.length co) out [] [.slice (some ⟨w4.heap.size, 0, none⟩) 0 0] (fun _ => True) (fun k => wi.heap.size ≤ k) rfl ?ax ?aP (fun k hk => ⟨trivial, fun e => Nat.not_lt.2 hk (HOLT.out k e.symm)⟩) (fun _ _ => trivial) ?aO ?aB ?aS ?aL ?_; (case ax => rw [show (w4.alloc (.cells #[] 2)).heap.size = w4.heap.size + 1 by simp]; rfl); (case aP => exact ⟨_, rfl, R_own0 kI 2 w4 w.heap.size (fun k => wi.heap.size ≤ k) (Nat.le_trans hszw HB4.out.size) HB4.out.size⟩); (case aB => exact below_alloc (below_step HB.out HB4.out) _); (case aO => exact Kd.S_mono (ok' := fun k => True ∧ ¬ wi.heap.size ≤ k) (Kd.S_old HO.out (below_alloc HB4.out _)) (fun _ hk => ⟨trivial, Nat.not_le.2 hk.2⟩)); (case aS => exact (below_alloc (below_step HB.out HB4.out) (.cells #[] 2)).size); (case aL => have := HOL.out; omega); intro v9 w9 ho hb hg hat; have HO9 := Aside0.mk ho; have HB9 := Aside0.mk hb; clear ho hb hg hat))
              go_roundg kq
              case measure => omega
              case rel => exact ⟨i + 1, out ++ [[]], by first | rfl | simp, by omega, ⟨by rw [List.length_append, HOL.out]; rfl⟩, ⟨by rw [← HEQ.out]; exact HRR.out⟩, ⟨fun L hL => by
                rcases List.mem_append.1 hL with hL | hL
                · exact HLL.out L hL
                · rw [List.mem_singleton.1 hL]; simp⟩, HO9, HB9⟩
            | true =>
              obtain ⟨Am, cm, rfl, hrm, htm⟩ := own_rd HRm.out
              have HEQ : Aside0 (LN = (i : Int) :: rM) := ⟨HM2.out.symm⟩
              have hsz4 := HB4.out.size
              have HCR := Aside0.mk (Kd.C_below hrm.2.2 (below_alloc (Below.refl w4.heap.size w4) (.cells #[.int .i64 (i : Int)] 2)))
              have HOa := Aside0.mk (show Kd.R kI 2 (w4.alloc (.cells #[.int .i64 (i : Int)] 2)) wi.heap.size (fun k => w4.heap.size ≤ k) (.slice (some ⟨w4.heap.size, 0, none⟩) 1 1) [(i : Int)] from Kd.R_of_own (enc := Value.int .i64) (h1 := fun _ => rfl) (own_lit w4 wi.heap.size 2 .i64 [(i : Int)] hsz4 (by simp)) (fun k hk => Nat.le_of_eq (Option.some.inj hk)))
              have HBa := Aside0.mk (below_alloc HB4.out (.cells #[.int .i64 (i : Int)] 2))
              have hsza := HBa.out.size
              have hlm : (1 + rM.length) * 8 ≤ 140737488355328 := by have := HRL.out; simp at this; omega
              clear hrm htm
              go_wp2_with (first | ((with_reducible refine gate_builtin (b := .append) (xs := #[.tmp 81, .tmp 82]) rfl ?_); at_builtin; refine Kd.R_append_rows kI (Rr := kI.K (w4.alloc (.cells #[.int .i64 (i : Int)] 2))) (w0 := wi) wi.heap.size rfl (.tmp 81) (.tmp 82) 37 2 (.int .i64 0) 8 rfl Try.underlying37 info2' rfl (by decide) (by omega) (.slice (some ⟨w4.heap.size, 0, none⟩) 1 1) [(i : Int)] rM Am rM.length cm (fun k => w4.heap.size ≤ k) (fun _ => False) rfl rfl ?aO ?aR (fun _ _ h => h) (fun _ hk => hk.elim) (fun k hk => by simp at hk; omega) ?aB ?aS ?aL ?_; (case aB => exact HBa.out); (case aO => exact HOa.out); (case aR => exact HCR.out); (case aS => exact hsza); (case aL => exact hlm); intro v5 w5 ho hb hg hat; obtain ⟨A5, c5, rfl, hrd, hty⟩ := own_rd ho; have HR5 := Aside0.mk ho; have HB5 := Aside0.mk hb; clear ho hb hg hat hrd hty) | ((with_reducible refine gate_builtin (b := .append) (xs := #[.tmp 79, .tmp 84]) rfl ?_); at_builtin; refine Kd.S_append kS (w0 := w) w.heap.size rfl (.tmp 79) (.tmp 84) 34 37 (.slice none 0 0) 24 rfl Try.underlying34 info37 rfl (by decide) (by omega) (.slice Ao out.length co) out ((i : Int) :: rM) [.slice A5 ([(i : Int)] ++ rM).length c5] (fun _ => True) (fun k => wi.heap.size ≤ k) rfl rfl ?aP (fun k hk => ⟨trivial, fun e => Nat.not_lt.2 hk (HOLT.out k e.symm)⟩) (fun _ _ => trivial) ?aO ?aB ?aS ?aL ?_; (case aP => exact ⟨_, rfl, Kd.R_mono (ok' := fun k => wi.heap.size ≤ k) (Kd.R_lower (Kd.R_bound HR5.out) hszw) (fun _ h => h.2.1)⟩); (case aB => exact below_step HB.out HB5.out); (case aO => exact Kd.S_mono (ok' := fun k => True ∧ ¬ wi.heap.size ≤ k) (Kd.S_old HO.out HB5.out) (fun _ hk => ⟨trivial, Nat.not_le.2 hk.2⟩)); (case aS => exact (below_step HB.out HB5.out).size); (case aL => have := HOL.out; omega); intro v9 w9 ho hb hg hat; have HO9 := Aside0.mk ho; have HB9 := Aside0.mk hb; clear ho hb hg hat))
              go_roundg kq
              case measure => omega
              case rel => exact ⟨i + 1, out ++ [(i : Int) :: rM], by first | rfl | simp, by omega, ⟨by rw [List.length_append, HOL.out]; rfl⟩, ⟨by rw [← HEQ.out]; exact HRR.out⟩, ⟨fun L hL => by
                rcases List.mem_append.1 hL with hL | hL
                · exact HLL.out L hL
                · rw [List.mem_singleton.1 hL]
                  refine ⟨by have := HRL.out; simp at this; simp; omega, fun x hx => ?_⟩
                  rcases List.mem_cons.1 hx with rfl | hx
                  · omega
                  · rcases HRS.out x hx with h5 | ⟨L0, h0, h5⟩
                    · cases h5
                    · exact (HPO.out L0 h0).2 x h5⟩, HO9, HB9⟩

    · have hin : i = n := by omega
      subst hin
      have hd : l0.drop i = [] := List.drop_eq_nil_iff.2 (by rw [HN.out]; exact Nat.le_refl _)
      have e := HR.out
      rw [hd, specFrom] at e
      have e := Option.some.inj e
      subst e
      clear hd
      go_wp2
      (try simp only [Exit.inBlock, Exit.then])
      (try rw [Exit.noGoto_ret])
      go_ret
      exact ⟨_, rfl, HO.out, HB.out⟩

end Go.Proofs.Ytkclfbmgnhmkhaa.PC
