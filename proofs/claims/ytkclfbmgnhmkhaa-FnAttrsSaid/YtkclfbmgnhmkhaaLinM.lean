/- The lines of classes as plain functions, and rows of rows of which the empty ones are nil. Plain law; no condition beyond those of the theorems. -/
import Derived.Test.YtkclfbmgnhmkhaaGCls
import Derived.Test.YtkclfbmgnhmkhaaGTail
namespace Go.Proofs.Ytkclfbmgnhmkhaa.PC
open Go.RowKit Go.Proofs.YtkclfbmgnhmkhaaW.PrintWords Go.Proofs.YtkclfbmgnhmkhaaW.PrintLast Go.Proofs.YtkclfbmgnhmkhaaW.PrintMore
set_option linter.unusedVariables false
set_option linter.unusedSimpArgs false

/-- A row of numbers of the call's own, nil where it is empty. -/
def kN : Kd (List Int) where
  sz := 1
  E := 2 :: (Kd.int .i64).E
  K := fun w xs cs => ∃ A c, cs = [.slice A xs.length c] ∧ xs.length ≤ c ∧ (Kd.int .i64).C w A xs.length xs ∧ (xs = [] → A = none ∧ c = 0)
  M := fun w base ok xs cs => ∃ v, cs = [v] ∧ (Kd.int .i64).R 2 w base ok v xs ∧ (xs = [] → v = .slice none 0 0)
  K_len := by
    rintro w x cs ⟨A, c, rfl, _⟩
    rfl
  K_one := by
    rintro w x cs ⟨A, c, rfl, _⟩ u hu
    rw [List.mem_singleton.1 hu]
    rfl
  K_below := by
    rintro w w1 x cs hb ⟨A, c, rfl, hl, hr, hn⟩
    exact ⟨A, c, rfl, hl, Kd.C_below hr hb, hn⟩
  K_of_M := by
    rintro w base ok x cs ⟨v, rfl, h, hn⟩
    obtain ⟨A, c, rfl, hl, hr⟩ := Kd.R_reads h
    exact ⟨A, c, rfl, hl, hr, fun e => by have := hn e; injection this with h1 h2 h3; exact ⟨h1, h3⟩⟩
  M_mono := by
    rintro w base ok ok' x cs hok ⟨v, rfl, h, hn⟩
    exact ⟨v, rfl, Kd.R_mono h hok, hn⟩
  M_bound := by
    rintro w base ok x cs ⟨v, rfl, h, hn⟩
    exact ⟨v, rfl, Kd.R_bound h, hn⟩
  M_move := by
    rintro w w1 base ok x cs hm ⟨v, rfl, h, hn⟩
    exact ⟨v, rfl, Kd.R_move h hm, hn⟩
  M_lower := by
    rintro w base base' ok x cs hb ⟨v, rfl, h, hn⟩
    exact ⟨v, rfl, Kd.R_lower h hb, hn⟩

def heads (LS : List (List Int)) : List (List Int) → Option Int
  | [] => none
  | [] :: r => heads LS r
  | (h :: _) :: r => if LS.any (fun L => inT h L) = true then heads LS r else some h
def strip (h : Int) : List Int → List Int
  | [] => []
  | x :: T => if x = h then T else x :: T
/-- The merge of rows behind a line; an empty one: none can be taken though some are left. -/
def mergeM : Nat → List (List Int) → List Int → Option (List Int)
  | 0, _, _ => none
  | k + 1, LS, line => match heads LS LS with
    | some h => mergeM k (LS.map (strip h)) (line ++ [h])
    | none => if LS.all (fun L => L.isEmpty) = true then some line else some []
def oneLine (out : List (List Int)) (i : Nat) (bs : List Int) : Option (List Int) :=
  if bs.any (fun b => (out.getD b.toNat []).isEmpty) = true then some [] else mergeM 1000000 (bs.map (fun b => out.getD b.toNat []) ++ [bs]) [(i : Int)]
def linesFrom : List S41 → Nat → List (List Int) → Option (List (List Int))
  | [], _, out => some out
  | c :: r, i, out => (oneLine out i c.f0).bind fun L => linesFrom r (i + 1) (out ++ [L])
def impl_ylines.f (l : List S41) : Option (List (List Int)) := if okCls l = true ∧ ∀ c ∈ l, c.f0.length ≤ 1000 then linesFrom l 0 [] else none

theorem okFrom_get : ∀ (l : List S41) (i : Nat), okFrom i l = true → ∀ j (h : j < l.length), clsOk (i + j) l[j] = true
  | [], i, _, j, h => by simp at h
  | c :: r, i, hk, j, h => by
    rw [okFrom, Bool.and_eq_true] at hk
    cases j with
    | zero => exact hk.1
    | succ j =>
      have := okFrom_get r (i + 1) hk.2 j (by simpa using h)
      rw [show i + (j + 1) = i + 1 + j by omega]
      exact this
theorem okCls_base {l : List S41} (h : okCls l = true) (i : Nat) (hi : i < l.length) : l.length ≤ 200 ∧ (∀ b ∈ l[i].f0, 0 ≤ b ∧ b < (i : Int)) ∧ l[i].f0.Nodup := by
  unfold okCls at h
  rw [Bool.and_eq_true, decide_eq_true_eq] at h
  have h1 := okFrom_get l 0 h.2 i hi
  rw [Nat.zero_add] at h1
  unfold clsOk at h1
  simp only [Bool.and_eq_true, decide_eq_true_eq] at h1
  exact ⟨h.1, h1.1.1.1, h1.1.1.2⟩
theorem merge_len : ∀ (k : Nat) (LS : List (List Int)) (line r : List Int), mergeM k LS line = some r → r.length ≤ line.length + k
  | 0, _, _, _, h => by simp [mergeM] at h
  | k + 1, LS, line, r, h => by
    rw [mergeM] at h
    split at h
    · have := merge_len k _ _ _ h
      simp at this
      omega
    · split at h
      · obtain rfl := Option.some.inj h
        omega
      · obtain rfl := Option.some.inj h
        simp
theorem oneLine_len {out : List (List Int)} {i : Nat} {bs r : List Int} (h : oneLine out i bs = some r) : r.length ≤ 1000001 := by
  unfold oneLine at h
  split at h
  · obtain rfl := Option.some.inj h
    simp
  · have := merge_len _ _ _ _ h
    simp at this
    omega

/-- Of an element of a row of rows: its header. -/
theorem kN_at {w : World} {A : Option Addr} {n : Nat} {xs : List (List Int)} (h : kN.C w A n xs) (i : Nat) (h1 : i < n) :
    ∃ ad A0 c0, A = some ad ∧ w.cell? (ad.add i) = some (.slice A0 (xs.getD i []).length c0) ∧ RdL w ⟨A0, (xs.getD i []).length, c0⟩ (xs.getD i []) ∧ ((xs.getD i []) = [] → A0 = none ∧ c0 = 0) := by
  obtain ⟨ad, c, e, _, hK, hc0⟩ := Kd.C_get h ([] : List Int) (i : Int) (by omega) (by omega)
  rw [Int.toNat_natCast] at hK hc0
  obtain ⟨A0, c0, rfl, l0, g0, hn⟩ := hK
  refine ⟨ad, A0, c0, e, ?_, ⟨rfl, l0, g0⟩, hn⟩
  have hq := hc0 0 _ rfl
  rwa [show kN.sz = 1 from rfl, Nat.mul_one, Nat.add_zero] at hq
theorem RdL.below {w w1 : World} {s : SV} {L : List Int} (h : RdL w s L) (hb : Below w.heap.size w w1) : RdL w1 s L := ⟨h.1, h.2.1, Kd.C_below h.2.2 hb⟩
theorem RdAll.below {w w1 : World} {ss : List SV} {LS : List (List Int)} (h : RdAll w ss LS) (hb : Below w.heap.size w w1) : RdAll w1 ss LS := ⟨h.1, fun i hi => (h.2 i hi).below hb⟩
theorem RdAll.snoc {w : World} {ss : List SV} {LS : List (List Int)} {s : SV} {L : List Int} (h : RdAll w ss LS) (hs : RdL w s L) : RdAll w (ss ++ [s]) (LS ++ [L]) := by
  refine ⟨by simp [h.1], fun i hi => ?_⟩
  rw [List.length_append, List.length_singleton] at hi
  by_cases e : i < ss.length
  · rw [List.getD_eq_getElem?_getD, List.getD_eq_getElem?_getD, List.getElem?_append_left e, List.getElem?_append_left (by rw [← h.1]; exact e), ← List.getD_eq_getElem?_getD, ← List.getD_eq_getElem?_getD]
    exact h.2 i e
  · obtain rfl : i = ss.length := by omega
    have e2 : (ss ++ [s]).getD ss.length zV = s := by simp [List.getD_eq_getElem?_getD]
    have e3 : (LS ++ [L]).getD ss.length [] = L := by rw [h.1]; simp [List.getD_eq_getElem?_getD]
    rw [e2, e3]
    exact hs
theorem RdAll.set {w : World} {ss : List SV} {LS : List (List Int)} {s : SV} {L : List Int} (h : RdAll w ss LS) (i : Nat) (hs : RdL w s L) : RdAll w (ss.set i s) (LS.set i L) := by
  refine ⟨by simp [h.1], fun j hj => ?_⟩
  rw [List.length_set] at hj
  rw [List.getD_eq_getElem?_getD, List.getD_eq_getElem?_getD, List.getElem?_set, List.getElem?_set]
  by_cases e : i = j
  · subst e
    rw [if_pos rfl, if_pos rfl, if_pos hj, if_pos (by rw [← h.1]; exact hj)]
    exact hs
  · rw [if_neg e, if_neg e, ← List.getD_eq_getElem?_getD, ← List.getD_eq_getElem?_getD]
    exact h.2 j hj

end Go.Proofs.Ytkclfbmgnhmkhaa.PC
