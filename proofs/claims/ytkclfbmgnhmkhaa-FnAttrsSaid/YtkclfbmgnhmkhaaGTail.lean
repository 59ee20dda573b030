/- What slices.Contains at []int64, the closure of ylines and slices.ContainsFunc at [][]int64 with it come to. No condition beyond those of the theorems. -/
import Derived.Test.YtkclfbmgnhmkhaaPCx0
import Derived.BigQuiet
import Derived.Deep.QuietTactic
namespace Go.Proofs.Ytkclfbmgnhmkhaa.PC
open Go.RowKit Go.Proofs.YtkclfbmgnhmkhaaW.PrintWords Go.Proofs.YtkclfbmgnhmkhaaW.PrintLast Go.Proofs.YtkclfbmgnhmkhaaW.PrintMore
set_option linter.unusedVariables false
set_option linter.unusedSimpArgs false

/-- A slice's header. -/
structure SV where
  A : Option Addr
  n : Nat
  c : Nat
def encV (s : SV) : Value := .slice s.A s.n s.c
def kV : Kd SV := Kd.scalar encV (fun _ => rfl)
def zV : SV := ⟨none, 0, 0⟩
/-- The header s reads as the numbers L. -/
def RdL (w : World) (s : SV) (L : List Int) : Prop := s.n = L.length ∧ L.length ≤ s.c ∧ (Kd.int .i64).C w s.A L.length L
def RdAll (w : World) (ss : List SV) (LS : List (List Int)) : Prop := ss.length = LS.length ∧ ∀ i, i < ss.length → RdL w (ss.getD i zV) (LS.getD i [])

theorem rdI' (l : List Int) (i : Nat) (h : i < l.length) : rd l (i : Int) = l[i] := by simp [rd, List.getElem?_eq_getElem h]

def IdxPost (P : Prop) (w : World) (e : Ending) (w' : World) : Prop := ∃ i : Int, e = .returned (.int .i64 i) ∧ (0 ≤ i ↔ P) ∧ ∃ q, w' = w.drewN q

theorem take_mem {α : Type} [DecidableEq α] (l : List α) (i : Nat) (h : i < l.length) (x : α) : x ∈ l.take (i + 1) ↔ x ∈ l.take i ∨ x = l[i] := by
  rw [List.take_add_one, List.getElem?_eq_getElem h]
  show x ∈ l.take i ++ [l[i]] ↔ _
  rw [List.mem_append, List.mem_singleton]

set_option maxHeartbeats 1000000 in
set_option maxRecDepth 1000000 in
theorem index_calls (A : Option Addr) (c : Nat) (L : List Int) (x : Int) (w : World) (hr : (Kd.int .i64).C w A L.length L) (hc : L.length ≤ c) (hl : L.length ≤ 1000000000000) :
    Calls Try.prog 70 #[.slice A L.length c, .int .i64 x] w (IdxPost (x ∈ L) w) := by
  have HC := Aside0.mk hr
  clear hr
  obtain ⟨n, hn⟩ : ∃ n, L.length = n := ⟨_, rfl⟩
  have HN := Aside0.mk hn
  rw [hn] at HC hl hc ⊢
  clear hn
  go_enter Try.func70, Try.ntmps70
  go_wp2_with fail
  go_loopg [8] n (fun kq v8 w' => ∃ i : Nat, v8 = .int .i64 i ∧ i + kq = n ∧ Aside0 (x ∉ L.take i) ∧ Aside0 (∃ q, w' = w.drewN q))
  case atStart => exact ⟨0, rfl, by omega, ⟨by simp⟩, ⟨0, rfl⟩⟩
  case round =>
    obtain ⟨i, rfl, hik, HX, ⟨q, rfl⟩⟩ := hrel
    by_cases hi : i < n
    · obtain ⟨kq, rfl⟩ : ∃ q, gk = q + 1 := ⟨gk - 1, by omega⟩
      obtain ⟨ad, rfl, y0⟩ := Kd.at_int (Kd.C_drewN HC.out q) (i : Int) (by omega) (by omega)
      have hiL : i < L.length := by rw [HN.out]; exact hi
      rw [rdI' L i hiL, Int.toNat_natCast] at y0
      have HT := Aside0.mk (take_mem L i hiL x)
      have HM := Aside0.mk (List.getElem_mem hiL)
      obtain ⟨b, hb⟩ : ∃ b, L[i] = b := ⟨_, rfl⟩
      rw [hb] at y0 HT HM
      clear hb hiL
      by_cases hx : x = b
      · subst hx
        go_wp2
        go_ret
        exact ⟨(i : Int), rfl, ⟨fun _ => HM.out, fun _ => by omega⟩, q, rfl⟩
      · have hxb : (x == b) = false := by simpa using hx
        have HX2 := Aside0.mk (show x ∉ L.take (i + 1) from fun h => (HT.out.1 h).elim HX.out hx)
        clear hx
        go_wp2
        go_roundg kq
        case measure => omega
        case rel => exact ⟨i + 1, by first | rfl | simp, by omega, HX2, ⟨q, rfl⟩⟩
    · have hin : i = n := by omega
      subst hin
      have HX2 := HX.out
      rw [List.take_of_length_le (by rw [HN.out]; exact Nat.le_refl _)] at HX2
      have HX3 := Aside0.mk HX2
      clear HX2
      go_wp2
      go_ret
      exact ⟨-1, rfl, ⟨fun h => by omega, fun h => absurd h HX3.out⟩, q, rfl⟩

set_option maxHeartbeats 1000000 in
set_option maxRecDepth 1000000 in
theorem contains_calls (A : Option Addr) (c : Nat) (L : List Int) (x : Int) (w : World) (hr : (Kd.int .i64).C w A L.length L) (hc : L.length ≤ c) (hl : L.length ≤ 1000000000000) :
    Calls Try.prog 65 #[.slice A L.length c, .int .i64 x] w fun e w' => e = .returned (.bool (decide (x ∈ L))) ∧ ∃ q, w' = w.drewN q := by
  have cI := index_calls A c L x w hr hc hl
  clear hr
  obtain ⟨n, hn⟩ : ∃ n, L.length = n := ⟨_, rfl⟩
  rw [hn] at cI ⊢
  clear hn hl hc
  by_cases hx : x ∈ L
  · rw [decide_eq_true hx]
    have HX := Aside0.mk hx
    clear hx
    go_enter Try.func65, Try.ntmps65
    go_wp2_with fail
    refine cI.mono ?_
    rintro e w1 ⟨i, rfl, hi, q, rfl⟩
    have hi0 := hi.2 HX.out
    clear hi cI
    go_wp2
    go_ret
    exact ⟨rfl, q, rfl⟩
  · rw [decide_eq_false hx]
    have HX := Aside0.mk hx
    clear hx
    go_enter Try.func65, Try.ntmps65
    go_wp2_with fail
    refine cI.mono ?_
    rintro e w1 ⟨i, rfl, hi, q, rfl⟩
    have hi0 : decide (0 ≤ i) = false := decide_eq_false (fun h => HX.out (hi.1 h))
    clear hi cI
    go_wp2
    go_ret
    exact ⟨rfl, q, rfl⟩

theorem add_add' (a : Addr) (i j : Nat) : (a.add i).add j = a.add (i + j) := by
  unfold Addr.add
  by_cases h : i = 0 <;> by_cases k : j = 0 <;> simp [h, k, Nat.add_assoc]

/-- The tail of a row that is read. -/
theorem C_tail {w : World} {ad : Addr} {x : Int} {T : List Int} (h : (Kd.int .i64).C w (some ad) (x :: T).length (x :: T)) : (Kd.int .i64).C w (some (ad.add 1)) T.length T := by
  have h0 := Kd.reads_of_C (enc := Value.int .i64) (d := (0 : Int)) (h1 := fun _ => rfl) h
  obtain ⟨e1, e2, e3⟩ := h0
  obtain ⟨ad', ea, hcell⟩ := e3 (by simp)
  obtain rfl := Option.some.inj ea
  refine Kd.C_of_reads (d := (0 : Int)) (h1 := fun _ => rfl) ⟨rfl, by simp at e2; omega, fun hn => ⟨_, rfl, fun j hj => ?_⟩⟩
  have := hcell (1 + j) (by simp; omega)
  rw [add_add', this]
  congr 2
  simp [Nat.add_comm 1 j]

/-- Does x stand behind the head of L? -/
def inT (x : Int) : List Int → Bool
  | [] => false
  | _ :: T => decide (x ∈ T)

set_option maxHeartbeats 1000000 in
set_option maxRecDepth 1000000 in
theorem tail_calls (s : SV) (L : List Int) (x : Int) (gh : Nat) (w : World) (hr : RdL w s L) (hl : L.length ≤ 1000000000000) (hh : w.cell? ⟨gh, 0, none⟩ = some (.int .i64 x)) :
    Calls Try.prog 64 #[encV s, .pointer (some ⟨gh, 0, none⟩)] w fun e w' => e = .returned (.bool (inT x L)) ∧ ∃ q, w' = w.drewN q := by
  obtain ⟨A, n, c⟩ := s
  obtain ⟨h1, h2, h3⟩ := hr
  simp only at h1 h2 h3
  subst h1
  unfold encV
  simp only
  cases L with
  | nil =>
    rw [show inT x [] = false from rfl]
    simp only [List.length_nil]
    have hz : decide ((1 : Int) < 0) = false := by decide
    clear h3 h2 hl
    go_enter Try.func64, Try.ntmps64
    go_wp2_with fail
    go_quiet (fail)
    go_wp2
    go_ret
    exact ⟨rfl, _, rfl⟩
  | cons y T =>
    cases T with
    | nil =>
      rw [show inT x [y] = false by simp [inT]]
      simp only [List.length_cons, List.length_nil]
      clear h3 h2 hl
      go_enter Try.func64, Try.ntmps64
      go_wp2_with fail
      go_quiet (fail)
      go_wp2
      go_ret
      exact ⟨rfl, _, rfl⟩
    | cons z T =>
      rw [show inT x (y :: z :: T) = decide (x ∈ z :: T) from rfl]
      obtain ⟨ad, rfl, _⟩ := Kd.at_int h3 0 (by omega) (by simp; omega)
      have hC := C_tail h3
      have cC : ∀ W c', (∃ q, W = w.drewN q) → (z :: T).length ≤ c' → Calls Try.prog 65 #[.slice (some (ad.add 1)) (z :: T).length c', .int .i64 x] W (fun e w' => e = .returned (.bool (decide (x ∈ z :: T))) ∧ ∃ q, w' = W.drewN q) := fun W c' hW hc' => by
        obtain ⟨q, rfl⟩ := hW
        exact contains_calls (some (ad.add 1)) c' (z :: T) x (w.drewN q) (Kd.C_drewN hC q) hc' (by simp at hl ⊢; omega)
      have CC := Aside0.mk cC
      rw [show ad.add 1 = ⟨ad.block, ad.off + 1, none⟩ from rfl] at CC
      clear h3 hC cC
      obtain ⟨m, hm⟩ : ∃ m, (z :: T).length = m := ⟨_, rfl⟩
      rw [hm] at CC
      have hm2 : (y :: z :: T).length = m + 1 := by rw [← hm]; simp
      have hm0 : 1 ≤ m := by rw [← hm]; simp
      rw [hm2] at h2 hl ⊢
      clear hm hm2
      generalize decide (x ∈ z :: T) = D at *
      have hg1 : decide ((1 : Int) < ((m + 1 : Nat) : Int)) = true := decide_eq_true (by omega)
      have hg2 : decide ((1 : Int) < (m : Int) + 1) = true := decide_eq_true (by omega)
      have hg3 : decide ((0 : Int) < (m : Int)) = true := decide_eq_true (by omega)
      have hg4 : decide (1 < m + 1) = true := decide_eq_true (by omega)
      have hg5 : decide (0 < m) = true := decide_eq_true (by omega)
      have hc1 : ¬ c = 1 := by omega
      have hsl : ∀ W, (Instr.sliceAt 37 (.slice (some ad) (m + 1) c) (some (.int .i64 1)) none none).run Try.prog W = .ok (.slice (some ⟨ad.block, ad.off + 1, none⟩) m (c - 1)) W := by
        intro W
        have h1 : (1 : Int) ≤ ((m + 1 : Nat) : Int) := by omega
        rw [run_sliceAt_slice (P := Try.prog) (w := W) 37 _ _ _ _ (by kernel_rfl), run_slice_l (P := Try.prog) (w := W) 37 (some ad) (m + 1) c (by kernel_rfl) .i64 1 (by omega) h1, show Try.prog.elem 37 = 2 from by kernel_rfl, Try.sizeOf2]
        simp [sliced, hc1, Result.andThen]
        rfl
      go_enter Try.func64, Try.ntmps64
      go_wp2_with fail
      go_quiet ((go_at_call 65; exact (CC.out _ _ ⟨_, rfl⟩ (by omega)).mono fun e w' ⟨h1, q, h2⟩ => ⟨h1, _, h2.trans (World.drewN_drewN _ _ _)⟩))
      go_wp2
      go_ret
      exact ⟨rfl, _, rfl⟩

theorem RdL.drewN {w : World} {s : SV} {L : List Int} (h : RdL w s L) (q : Nat) : RdL (w.drewN q) s L := ⟨h.1, h.2.1, Kd.C_drewN h.2.2 q⟩
theorem RdAll.drewN {w : World} {ss : List SV} {LS : List (List Int)} (h : RdAll w ss LS) (q : Nat) : RdAll (w.drewN q) ss LS := ⟨h.1, fun i hi => (h.2 i hi).drewN q⟩
def clos (gh : Nat) : Value := .func (.func 64) #[] #[.pointer (some ⟨gh, 0, none⟩)]
def anyT (x : Int) (LS : List (List Int)) : Prop := ∃ L ∈ LS, inT x L = true

theorem kV_cell {w : World} {A : Option Addr} {n : Nat} {ss : List SV} (h : kV.C w A n ss) (hn : n = ss.length) (i : Nat) (hi : i < n) : ∃ ad, A = some ad ∧ w.cell? (ad.add i) = some (.slice (ss.getD i zV).A (ss.getD i zV).n (ss.getD i zV).c) := by
  obtain ⟨_, _, h3⟩ := Kd.reads_of_C (enc := encV) (d := zV) (h1 := fun _ => rfl) h
  obtain ⟨ad, e, hc⟩ := h3 (by omega)
  exact ⟨ad, e, hc i hi⟩

set_option maxHeartbeats 1000000 in
set_option maxRecDepth 1000000 in
theorem indexF_calls (A : Option Addr) (c : Nat) (ss : List SV) (LS : List (List Int)) (x : Int) (gh : Nat) (w : World) (hr : kV.C w A ss.length ss) (hc : ss.length ≤ c) (hl : ss.length ≤ 1000000000000) (hA : RdAll w ss LS) (hL : ∀ L ∈ LS, L.length ≤ 1000000000000) (hh : w.cell? ⟨gh, 0, none⟩ = some (.int .i64 x)) :
    Calls Try.prog 69 #[.slice A ss.length c, clos gh] w (IdxPost (anyT x LS) w) := by
  have HC := Aside0.mk hr
  have HAL := Aside0.mk hA
  have HLL := Aside0.mk hL
  have HH := Aside0.mk hh
  clear hr hA hL hh
  obtain ⟨n, hn⟩ : ∃ n, ss.length = n := ⟨_, rfl⟩
  have HN := Aside0.mk hn
  rw [hn] at HC hl hc ⊢
  clear hn
  unfold clos
  go_enter Try.func69, Try.ntmps69
  go_wp2_with fail
  go_loopg [8] n (fun kq v8 w' => ∃ i : Nat, v8 = .int .i64 i ∧ i + kq = n ∧ Aside0 (∀ j, j < i → inT x (LS.getD j []) = false) ∧ Aside0 (∃ q, w' = w.drewN q))
  case atStart => exact ⟨0, rfl, by omega, ⟨fun j hj => by omega⟩, ⟨0, rfl⟩⟩
  case round =>
    obtain ⟨i, rfl, hik, HX, ⟨q, rfl⟩⟩ := hrel
    by_cases hi : i < n
    · obtain ⟨kq, rfl⟩ : ∃ q, gk = q + 1 := ⟨gk - 1, by omega⟩
      obtain ⟨ad, rfl, y0⟩ := kV_cell (HC.out) HN.out.symm i (by omega)
      have y0 : (w.drewN q).cell? (ad.add i) = _ := y0
      have hiL : i < LS.length := by rw [← HAL.out.1, HN.out]; exact hi
      have hm : LS.getD i [] ∈ LS := by rw [List.getD_eq_getElem?_getD, List.getElem?_eq_getElem hiL]; exact List.getElem_mem hiL
      have cT := Aside0.mk (tail_calls (ss.getD i zV) (LS.getD i []) x gh (w.drewN q) ((HAL.out.2 i (by rw [HN.out]; exact hi)).drewN q) (HLL.out _ hm) HH.out)
      have HM := Aside0.mk hm
      clear hm hiL
      unfold encV at cT
      generalize ss.getD i zV = s at *
      cases hb : inT x (LS.getD i []) with
      | true =>
        have HBT := Aside0.mk hb
        rw [hb] at cT
        clear hb
        go_wp2_with fail
        refine cT.out.mono ?_
        rintro e w1 ⟨rfl, q1, rfl⟩
        clear cT
        go_wp2
        go_ret
        exact ⟨(i : Int), rfl, ⟨fun _ => ⟨_, HM.out, HBT.out⟩, fun _ => by omega⟩, _, rfl⟩
      | false =>
        have HX2 := Aside0.mk (show ∀ j, j < i + 1 → inT x (LS.getD j []) = false from fun j hj => by
          by_cases e : j = i
          · rw [e]; exact hb
          · exact HX.out j (by omega))
        rw [hb] at cT
        clear hb
        go_wp2_with fail
        refine cT.out.mono ?_
        rintro e w1 ⟨rfl, q1, rfl⟩
        clear cT
        go_wp2
        go_roundg kq
        case measure => omega
        case rel => exact ⟨i + 1, by first | rfl | simp, by omega, HX2, ⟨_, rfl⟩⟩
    · have hin : i = n := by omega
      subst hin
      have HX2 := Aside0.mk (show ¬ anyT x LS from fun ⟨L, hL, hT⟩ => by
        obtain ⟨j, hj⟩ := List.mem_iff_getElem?.1 hL
        have hjl : j < LS.length := (List.getElem?_eq_some_iff.1 hj).1
        have h1 := HX.out j (by rw [← HN.out, HAL.out.1]; exact hjl)
        rw [List.getD_eq_getElem?_getD, hj] at h1
        rw [Option.getD_some, hT] at h1
        cases h1)
      go_wp2
      go_ret
      exact ⟨-1, rfl, ⟨fun h => by omega, fun h => absurd h HX2.out⟩, q, rfl⟩

set_option maxHeartbeats 1000000 in
set_option maxRecDepth 1000000 in
theorem containsF_calls (A : Option Addr) (c : Nat) (ss : List SV) (LS : List (List Int)) (x : Int) (gh : Nat) (b : Bool) (hb : b = true ↔ anyT x LS) (w : World) (hr : kV.C w A ss.length ss) (hc : ss.length ≤ c) (hl : ss.length ≤ 1000000000000) (hA : RdAll w ss LS) (hL : ∀ L ∈ LS, L.length ≤ 1000000000000) (hh : w.cell? ⟨gh, 0, none⟩ = some (.int .i64 x)) :
    Calls Try.prog 63 #[.slice A ss.length c, clos gh] w fun e w' => e = .returned (.bool b) ∧ ∃ q, w' = w.drewN q := by
  have cI := Aside0.mk (indexF_calls A c ss LS x gh w hr hc hl hA hL hh)
  have HB := Aside0.mk hb
  clear hr hA hL hh hb
  obtain ⟨n, hn⟩ : ∃ n, ss.length = n := ⟨_, rfl⟩
  rw [hn] at cI ⊢
  clear hn hl hc
  unfold clos at cI ⊢
  cases b with
  | true =>
    go_enter Try.func63, Try.ntmps63
    go_wp2_with fail
    refine cI.out.mono ?_
    rintro e w1 ⟨i, rfl, hi, q, rfl⟩
    have hi0 : decide (0 ≤ i) = true := decide_eq_true (hi.2 (HB.out.1 (by trivial)))
    clear hi cI
    go_wp2
    go_ret
    exact ⟨rfl, q, rfl⟩
  | false =>
    go_enter Try.func63, Try.ntmps63
    go_wp2_with fail
    refine cI.out.mono ?_
    rintro e w1 ⟨i, rfl, hi, q, rfl⟩
    have hi0 : decide (0 ≤ i) = false := decide_eq_false (fun h => by have := HB.out.2 (hi.1 h); cases this)
    clear hi cI
    go_wp2
    go_ret
    exact ⟨rfl, q, rfl⟩

end Go.Proofs.Ytkclfbmgnhmkhaa.PC
