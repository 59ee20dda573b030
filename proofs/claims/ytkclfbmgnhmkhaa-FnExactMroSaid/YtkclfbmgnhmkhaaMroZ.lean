/- Marks of rows, and what Mro and MroFits of the reference come to. Plain law; no condition beyond those of the theorems. -/
import Derived.Test.YtkclfbmgnhmkhaaLinP
import Derived.Test.YtkclfbmgnhmkhaaCpyZ
import Derived.Test.YtkclfbmgnhmkhaaPMx1
import Derived.Test.YtkclfbmgnhmkhaaPMx2
import Derived.Test.YtkclfbmgnhmkhaaGMark
import Derived.Test.YtkclfbmgnhmkhaaGMro
namespace Go.Proofs.Ytkclfbmgnhmkhaa.PC
open Go.RowKit Go.Proofs.YtkclfbmgnhmkhaaW.PrintWords Go.Proofs.YtkclfbmgnhmkhaaW.PrintLast Go.Proofs.YtkclfbmgnhmkhaaW.PrintMore
set_option linter.unusedVariables false
set_option linter.unusedSimpArgs false

theorem wrapS (i : Nat) (h : i < 9000000000000000000) : wrap64 ((i : Int) + 1) = ((i + 1 : Nat) : Int) := by
  rw [wrap_in _ (by omega) (by omega)]
  omega
def seqFrom : Int → Nat → List Int
  | _, 0 => []
  | v, n + 1 => v :: seqFrom (v + 1) n
theorem seqFrom_length (n : Nat) : ∀ v, (seqFrom v n).length = n := by
  induction n with
  | zero => intro v; rfl
  | succ n ih => intro v; simp [seqFrom, ih]
theorem markI_loop (d : Nat) : ∀ (k i : Nat) (x : List Int) (v : Int), x.length = i + d → x.length < 4000000000000000000 → 0 ≤ v → v + d < 9000000000000000000 → d < k → laws_markInt64S.l0 k x v (i : Int) = some (v + d, x.take i ++ seqFrom v d) := by
  induction d with
  | zero =>
    intro k i x v h1 hx hv hvd h2
    obtain ⟨k, rfl⟩ : ∃ m, k = m + 1 := ⟨k - 1, by omega⟩
    rw [laws_markInt64S.l0, if_neg (by omega), List.take_of_length_le (by omega)]
    simp [seqFrom]
  | succ d ih =>
    intro k i x v h1 hx hv hvd h2
    obtain ⟨k, rfl⟩ : ∃ m, k = m + 1 := ⟨k - 1, by omega⟩
    rw [laws_markInt64S.l0, if_pos (by omega), if_pos (by omega), wrapS i (by omega), Int.toNat_natCast, wrap_in (v + 1) (by omega) (by omega)]
    rw [ih k (i + 1) (x.set i v) (v + 1) (by rw [List.length_set]; omega) (by rw [List.length_set]; exact hx) (by omega) (by omega) (by omega), take_set_self (by omega)]
    simp only [seqFrom, List.append_assoc, List.singleton_append]
    congr 2
    omega
theorem markI_some (x : List Int) (v : Int) (k : Nat) (hx : x.length ≤ 1000000000) (h0 : 0 ≤ v) (h1 : v ≤ 8000000000000000000) (hk : x.length < k) : laws_markInt64S.f k x v = some (v + (x.length : Int), seqFrom v x.length) := by
  unfold laws_markInt64S.f
  rw [show (0 : Int) = ((0 : Nat) : Int) from rfl, markI_loop x.length k 0 x v (by omega) (by omega) h0 (by omega) hk]
  simp
theorem heldI_loop (d : Nat) : ∀ (k i : Nat) (x : List Int) (v : Int), x.drop i = seqFrom v d → x.length = i + d → x.length < 4000000000000000000 → 0 ≤ v → v + d < 9000000000000000000 → d < k → laws_heldInt64S.l0 k x v (i : Int) = some (v + d) := by
  induction d with
  | zero =>
    intro k i x v h0 h1 hx hv hvd h2
    obtain ⟨k, rfl⟩ : ∃ m, k = m + 1 := ⟨k - 1, by omega⟩
    rw [laws_heldInt64S.l0, if_neg (by omega)]
    simp
  | succ d ih =>
    intro k i x v h0 h1 hx hv hvd h2
    obtain ⟨k, rfl⟩ : ∃ m, k = m + 1 := ⟨k - 1, by omega⟩
    have hi : i < x.length := by omega
    rw [List.drop_eq_getElem_cons hi] at h0
    simp only [seqFrom, List.cons.injEq] at h0
    have hr : rd x (i : Int) = v := by rw [← h0.1]; simp [rd, List.getElem?_eq_getElem hi]
    rw [laws_heldInt64S.l0, if_pos (by omega), if_pos (by omega), if_pos hr, wrapS i (by omega), wrap_in (v + 1) (by omega) (by omega)]
    rw [ih k (i + 1) x (v + 1) h0.2 (by omega) hx (by omega) (by omega) (by omega)]
    congr 1
    omega
theorem heldI_some (v : Int) (n k : Nat) (hx : n ≤ 1000000000) (h0 : 0 ≤ v) (h1 : v ≤ 8000000000000000000) (hk : n < k) : laws_heldInt64S.f k (seqFrom v n) v = some (v + (n : Int)) := by
  unfold laws_heldInt64S.f
  exact heldI_loop n k 0 (seqFrom v n) v rfl (by rw [seqFrom_length]; omega) (by rw [seqFrom_length]; omega) h0 (by omega) hk

def seqB : Int → Nat → List Bool
  | _, 0 => []
  | v, n + 1 => (Int.tmod v 3 == 0) :: seqB (v + 1) n
theorem seqB_length (n : Nat) : ∀ v, (seqB v n).length = n := by
  induction n with
  | zero => intro v; rfl
  | succ n ih => intro v; simp [seqB, ih]
theorem markB_loop (d : Nat) : ∀ (k i : Nat) (x : List Bool) (v : Int), x.length = i + d → x.length < 4000000000000000000 → 0 ≤ v → v + d < 9000000000000000000 → d < k → laws_markBoolS.l0 k x v (i : Int) = some (v + d, x.take i ++ seqB v d) := by
  induction d with
  | zero =>
    intro k i x v h1 hx hv hvd h2
    obtain ⟨k, rfl⟩ : ∃ m, k = m + 1 := ⟨k - 1, by omega⟩
    rw [laws_markBoolS.l0, if_neg (by omega), List.take_of_length_le (by omega)]
    simp [seqB]
  | succ d ih =>
    intro k i x v h1 hx hv hvd h2
    obtain ⟨k, rfl⟩ : ∃ m, k = m + 1 := ⟨k - 1, by omega⟩
    rw [laws_markBoolS.l0, if_pos (by omega), if_pos (by omega), wrapS i (by omega), Int.toNat_natCast, wrap_in (v + 1) (by omega) (by omega)]
    rw [ih k (i + 1) (x.set i _) (v + 1) (by rw [List.length_set]; omega) (by rw [List.length_set]; exact hx) (by omega) (by omega) (by omega), take_set_self (by omega)]
    simp only [seqB, List.append_assoc, List.singleton_append]
    congr 2
    omega
theorem markB_some (x : List Bool) (k : Nat) (hx : x.length ≤ 1000000000) (hk : x.length < k) : laws_markBoolS.f k x 1 = some (1 + (x.length : Int), seqB 1 x.length) := by
  unfold laws_markBoolS.f
  rw [show (0 : Int) = ((0 : Nat) : Int) from rfl, markB_loop x.length k 0 x 1 (by omega) (by omega) (by omega) (by omega) hk]
  simp
theorem heldB_loop (d : Nat) : ∀ (k i : Nat) (x : List Bool) (v : Int), x.drop i = seqB v d → x.length = i + d → x.length < 4000000000000000000 → 0 ≤ v → v + d < 9000000000000000000 → d < k → laws_heldBoolS.l0 k x v (i : Int) = some (v + d) := by
  induction d with
  | zero =>
    intro k i x v h0 h1 hx hv hvd h2
    obtain ⟨k, rfl⟩ : ∃ m, k = m + 1 := ⟨k - 1, by omega⟩
    rw [laws_heldBoolS.l0, if_neg (by omega)]
    simp
  | succ d ih =>
    intro k i x v h0 h1 hx hv hvd h2
    obtain ⟨k, rfl⟩ : ∃ m, k = m + 1 := ⟨k - 1, by omega⟩
    have hi : i < x.length := by omega
    rw [List.drop_eq_getElem_cons hi] at h0
    simp only [seqB, List.cons.injEq] at h0
    have hr : rdOf false x (i : Int) = (Int.tmod v 3 == 0) := by rw [← h0.1]; simp [rdOf, List.getElem?_eq_getElem hi]
    rw [laws_heldBoolS.l0, if_pos (by omega), if_pos (by omega), hr, if_neg (by simp), wrapS i (by omega), wrap_in (v + 1) (by omega) (by omega)]
    rw [ih k (i + 1) x (v + 1) h0.2 (by omega) hx (by omega) (by omega) (by omega)]
    congr 1
    omega
theorem heldB_some (n k : Nat) (hx : n ≤ 1000000000) (hk : n < k) : laws_heldBoolS.f k (seqB 1 n) 1 = some (1 + (n : Int)) := by
  unfold laws_heldBoolS.f
  exact heldB_loop n k 0 (seqB 1 n) 1 rfl (by rw [seqB_length]; omega) (by rw [seqB_length]; omega) (by omega) (by omega) hk
theorem eqB_loop (x : List Bool) (hn : x.length < 9000000000000000000) (d : Nat) : ∀ (k i : Nat), x.length = i + d → d < k → laws_eqBoolS.l0 k x x (i : Int) = some true := by
  induction d with
  | zero =>
    intro k i h1 h2
    obtain ⟨k, rfl⟩ : ∃ m, k = m + 1 := ⟨k - 1, by omega⟩
    rw [laws_eqBoolS.l0, if_neg (by omega)]
  | succ d ih =>
    intro k i h1 h2
    obtain ⟨k, rfl⟩ : ∃ m, k = m + 1 := ⟨k - 1, by omega⟩
    rw [laws_eqBoolS.l0, if_pos (by omega), if_pos (by omega), if_pos (by omega), if_neg (by simp), wrapS i (by omega)]
    exact ih k (i + 1) (by omega) (by omega)
theorem eqB_some (x : List Bool) (hn : x.length < 9000000000000000000) (k : Nat) (hk : x.length < k) : laws_eqBoolS.f k x x = some true := by
  unfold laws_eqBoolS.f
  rw [if_pos rfl]
  exact eqB_loop x hn x.length k 0 (by omega) hk

def seqSS : Int → List (List Int) → List (List Int)
  | _, [] => []
  | v, L :: r => seqFrom v L.length :: seqSS (v + (L.length : Int)) r
theorem total_cons (L : List Int) (r : List (List Int)) : total (L :: r) = L.length + total r := by simp [total]
theorem markSS_some (k : Nat) : ∀ (LS : List (List Int)) (v : Int), (∀ L ∈ LS, L.length ≤ 1000000 ∧ L.length < k) → 0 ≤ v → v + (total LS : Int) ≤ 8000000000000000000 → markSS k LS v = some (v + (total LS : Int), seqSS v LS)
  | [], v, _, _, _ => by simp [markSS, total, seqSS]
  | L :: r, v, h, h0, h1 => by
    rw [total_cons] at h1 ⊢
    have hL := h L (List.mem_cons_self ..)
    rw [markSS, markI_some L v k (by omega) h0 (by omega) hL.2, Option.bind_some]
    simp only
    rw [markSS_some k r (v + (L.length : Int)) (fun M hM => h M (List.mem_cons_of_mem _ hM)) (by omega) (by omega)]
    simp only [Option.map_some, seqSS]
    congr 2
    omega
theorem seqSS_length : ∀ (LS : List (List Int)) (v : Int), (seqSS v LS).length = LS.length
  | [], _ => rfl
  | L :: r, v => by simp [seqSS, seqSS_length r]
theorem heldSS_loop : ∀ (R : List (List Int)) (k i : Nat) (x : List (List Int)) (v : Int), x.drop i = seqSS v R → x.length = i + R.length → x.length < 4000000000000000000 → (∀ L ∈ R, L.length ≤ 1000000) → 0 ≤ v → v + (total R : Int) ≤ 8000000000000000000 → R.length + 1000001 < k → laws_heldInt64SS.l0 k x v (i : Int) = some (v + (total R : Int))
  | [], k, i, x, v, h0, h1, hx, hR, hv, hvd, h2 => by
    obtain ⟨k, rfl⟩ : ∃ m, k = m + 1 := ⟨k - 1, by omega⟩
    rw [List.length_nil] at h1
    rw [laws_heldInt64SS.l0, if_neg (by omega)]
    simp [total]
  | L :: R, k, i, x, v, h0, h1, hx, hR, hv, hvd, h2 => by
    obtain ⟨k, rfl⟩ : ∃ m, k = m + 1 := ⟨k - 1, by omega⟩
    rw [List.length_cons] at h1 h2
    have hi : i < x.length := by omega
    rw [List.drop_eq_getElem_cons hi] at h0
    simp only [seqSS, List.cons.injEq] at h0
    have hr : rd_L1 x (i : Int) = seqFrom v L.length := by rw [← h0.1]; simp [rd_L1, List.getElem?_eq_getElem hi]
    have hL := hR L (List.mem_cons_self ..)
    rw [total_cons] at hvd ⊢
    rw [laws_heldInt64SS.l0, if_pos (by omega), if_pos (by omega), hr, heldI_some v L.length k (by omega) hv (by omega) (by omega), Option.bind_some, if_neg (by omega), wrapS i (by omega)]
    rw [heldSS_loop R k (i + 1) x (v + (L.length : Int)) h0.2 (by omega) hx (fun M hM => hR M (List.mem_cons_of_mem _ hM)) (by omega) (by omega) (by omega)]
    congr 1
    omega
theorem heldSS_some (LS : List (List Int)) (k : Nat) (hn : LS.length ≤ 1000000) (h : ∀ L ∈ LS, L.length ≤ 1000000) (ht : (total LS : Int) ≤ 1000000000000) (hk : 3000000 ≤ k) : laws_heldInt64SS.f k (seqSS 1 LS) 1 = some (1 + (total LS : Int)) := by
  unfold laws_heldInt64SS.f
  exact heldSS_loop LS k 0 (seqSS 1 LS) 1 rfl (by rw [seqSS_length]; omega) (by rw [seqSS_length]; omega) h (by omega) (by omega) (by omega)
theorem eqSS_loop (x : List (List Int)) (hn : x.length ≤ 1000000) (hx : ∀ L ∈ x, L.length ≤ 1000000) (d : Nat) : ∀ (k i : Nat), x.length = i + d → d + 1000001 < k → laws_eqInt64SS.l0 k x x (i : Int) = some true := by
  induction d with
  | zero =>
    intro k i h1 h2
    obtain ⟨k, rfl⟩ : ∃ m, k = m + 1 := ⟨k - 1, by omega⟩
    rw [laws_eqInt64SS.l0, if_neg (by omega)]
  | succ d ih =>
    intro k i h1 h2
    obtain ⟨k, rfl⟩ : ∃ m, k = m + 1 := ⟨k - 1, by omega⟩
    have hi : i < x.length := by omega
    have hr : rd_L1 x (i : Int) = x[i] := by simp [rd_L1, List.getElem?_eq_getElem hi]
    have hl := hx _ (List.getElem_mem hi)
    rw [laws_eqInt64SS.l0, if_pos (by omega), if_pos (by omega), if_pos (by omega), hr, eqI_some _ (by omega) k (by omega), Option.bind_some, if_pos rfl, wrapS i (by omega)]
    exact ih k (i + 1) (by omega) (by omega)
theorem eqSS_some (x : List (List Int)) (hn : x.length ≤ 1000000) (hx : ∀ L ∈ x, L.length ≤ 1000000) (k : Nat) (hk : 3000000 ≤ k) : laws_eqInt64SS.f k x x = some true := by
  unfold laws_eqInt64SS.f
  rw [if_pos rfl]
  exact eqSS_loop x hn hx x.length k 0 (by omega) (by omega)

theorem mt_loop (n : Nat) : ∀ (v : Int) (x : ByteArray), 0 ≤ v → v < ((10 ^ n : Nat) : Int) → v ≤ 9000000000000000000 → x.size + n ≤ 1000 → ∃ m, ∀ k, n < k → laws_markText.l0 k v x = some m := by
  induction n with
  | zero =>
    intro v x h0 h1 h2 h3
    have h1' : v < 1 := h1
    refine ⟨(⟨#[109]⟩ : ByteArray) ++ x, fun k hk => ?_⟩
    obtain ⟨k, rfl⟩ : ∃ m, k = m + 1 := ⟨k - 1, by omega⟩
    rw [laws_markText.l0, if_neg (by omega), if_pos (by omega)]
  | succ n ih =>
    intro v x h0 h1 h2 h3
    by_cases hv : v > 0
    · have hs : (strOfNums [(wrap64 (48 + Int.tmod v 10)) % 256]).size = 1 := by rw [strOfNums_size]; rfl
      have hq : Int.tdiv v 10 = v / 10 := Int.tdiv_eq_ediv_of_nonneg h0
      have h10 : v / 10 < ((10 ^ n : Nat) : Int) := by
        rw [Nat.pow_succ] at h1
        omega
      obtain ⟨m, hm⟩ := ih (v / 10) (strOfNums [(wrap64 (48 + Int.tmod v 10)) % 256] ++ x) (by omega) h10 (by omega) (by rw [ByteArray.size_append, hs]; omega)
      refine ⟨m, fun k hk => ?_⟩
      obtain ⟨k, rfl⟩ : ∃ m, k = m + 1 := ⟨k - 1, by omega⟩
      rw [laws_markText.l0, if_pos hv, Option.bind_some, if_pos (by rw [hs]; omega), hq, wrap_in (v / 10) (by omega) (by omega)]
      exact hm k (by omega)
    · refine ⟨(⟨#[109]⟩ : ByteArray) ++ x, fun k hk => ?_⟩
      obtain ⟨k, rfl⟩ : ∃ m, k = m + 1 := ⟨k - 1, by omega⟩
      rw [laws_markText.l0, if_neg hv, if_pos (by omega)]
theorem mt_ex (v : Int) (h0 : 1 ≤ v) (h1 : v ≤ 9000000000000000000) (k : Nat) (hk : 50 ≤ k) : ∃ m, laws_markText.f k v = some m := by
  obtain ⟨m, hm⟩ := mt_loop 19 v ⟨#[]⟩ (by omega) (by omega) (by omega) (by decide)
  refine ⟨m, ?_⟩
  unfold laws_markText.f
  rw [if_neg (by omega)]
  exact hm k (by omega)
theorem markA_loop (d : Nat) : ∀ (k i : Nat) (x : List S48) (v : Int), x.length = i + d → x.length ≤ 1000000000 → 1 ≤ v → v + 3 * d ≤ 8000000000000000000 → d + 60 < k → ∃ L, laws_markAttrS.l0 k x v (i : Int) = some (v + 3 * d, L) := by
  induction d with
  | zero =>
    intro k i x v h1 hx hv hvd h2
    obtain ⟨k, rfl⟩ : ∃ m, k = m + 1 := ⟨k - 1, by omega⟩
    rw [laws_markAttrS.l0, if_neg (by omega)]
    exact ⟨x, by simp⟩
  | succ d ih =>
    intro k i x v h1 hx hv hvd h2
    obtain ⟨k, rfl⟩ : ∃ m, k = m + 1 := ⟨k - 1, by omega⟩
    obtain ⟨m, hm⟩ := mt_ex v hv (by omega) k (by omega)
    rw [laws_markAttrS.l0, if_pos (by omega), hm, Option.bind_some, if_pos (by omega), Option.bind_some, Option.bind_some, wrapS i (by omega), wrap_in (v + 1) (by omega) (by omega), wrap_in (v + 1 + 1) (by omega) (by omega), wrap_in (v + 1 + 1 + 1) (by omega) (by omega)]
    have key : ∀ X : List S48, X.length = x.length → ∃ L, laws_markAttrS.l0 k X (v + 1 + 1 + 1) ((i + 1 : Nat) : Int) = some (v + 3 * ((d + 1 : Nat) : Int), L) := fun X hX => by
      obtain ⟨L, hL⟩ := ih k (i + 1) X (v + 1 + 1 + 1) (by omega) (by omega) (by omega) (by omega) (by omega)
      refine ⟨L, ?_⟩
      rw [hL]
      congr 2
      omega
    exact key _ (by simp only [List.length_set])
theorem markA_some (x : List S48) (v : Int) (k : Nat) (hx : x.length ≤ 1000000000) (h0 : 1 ≤ v) (h1 : v ≤ 7000000000000000000) (hk : x.length + 60 < k) : ∃ L, laws_markAttrS.f k x v = some (v + 3 * (x.length : Int), L) := by
  unfold laws_markAttrS.f
  exact markA_loop x.length k 0 x v (by omega) hx h0 (by omega) hk
theorem markCS_some (k : Nat) (hk : 3000000 ≤ k) : ∀ (l : List S41) (v : Int), (∀ c ∈ l, c.f0.length ≤ 1048576 ∧ c.f1.length ≤ 1048576) → 1 ≤ v → v + 4194304 * (l.length : Int) ≤ 1000000000000000000 → ∃ r L, markCS k l v = some (r, L) ∧ 0 ≤ r
  | [], v, _, h0, _ => ⟨v, [], rfl, by omega⟩
  | c :: t, v, h, h0, h1 => by
    have hc := h c (List.mem_cons_self ..)
    rw [List.length_cons] at h1
    obtain ⟨L1, e1⟩ := markA_some c.f1 (v + (c.f0.length : Int)) k (by omega) (by omega) (by omega) (by omega)
    obtain ⟨r, L, e2, h2⟩ := markCS_some k hk t (v + (c.f0.length : Int) + 3 * (c.f1.length : Int)) (fun x hx => h x (List.mem_cons_of_mem _ hx)) (by omega) (by omega)
    refine ⟨r, ⟨seqFrom v c.f0.length, L1⟩ :: L, ?_, h2⟩
    rw [markCS, markI_some c.f0 v k (by omega) (by omega) (by omega) (by omega), Option.bind_some]
    simp only
    rw [e1, Option.bind_some]
    simp only
    rw [e2]
    rfl

theorem fits_loop (ls : List (List Int)) (hl : ls.length ≤ 1000) (d : Nat) : ∀ (k i : Nat) (x : List Bool), ls.length = i + d → x.length = i → d < k → spec_MroFits.l0 k x ls (i : Int) = some (x ++ (ls.drop i).map fun L => !L.isEmpty) := by
  induction d with
  | zero =>
    intro k i x h1 h2 h3
    obtain ⟨k, rfl⟩ : ∃ m, k = m + 1 := ⟨k - 1, by omega⟩
    rw [spec_MroFits.l0, if_neg (by omega), List.drop_eq_nil_iff.2 (by omega)]
    simp
  | succ d ih =>
    intro k i x h1 h2 h3
    obtain ⟨k, rfl⟩ : ∃ m, k = m + 1 := ⟨k - 1, by omega⟩
    have hi : i < ls.length := by omega
    have hr : rd_L1 ls (i : Int) = ls[i] := by simp [rd_L1, List.getElem?_eq_getElem hi]
    rw [spec_MroFits.l0, if_pos (by omega), if_pos (by omega), if_pos (by omega), hr, wrapS i (by omega), ih k (i + 1) _ (by omega) (by rw [List.length_append, h2]; rfl) (by omega), List.drop_eq_getElem_cons hi, List.map_cons, List.append_assoc, List.singleton_append]
    congr 3
    cases ls[i] with
    | nil => rfl
    | cons a t => first | (simp; done) | (simp; omega)
theorem mro_loop (ls : List (List Int)) (hl : ls.length ≤ 1000) (d : Nat) : ∀ (k i : Nat), ls.length = i + d → d < k → spec_Mro.l0 k ls (i : Int) = some (mroRes ls (ls.drop i) i) := by
  induction d with
  | zero =>
    intro k i h1 h3
    obtain ⟨k, rfl⟩ : ∃ m, k = m + 1 := ⟨k - 1, by omega⟩
    rw [spec_Mro.l0, if_neg (by omega), List.drop_eq_nil_iff.2 (by omega), mroRes]
  | succ d ih =>
    intro k i h1 h3
    obtain ⟨k, rfl⟩ : ∃ m, k = m + 1 := ⟨k - 1, by omega⟩
    have hi : i < ls.length := by omega
    have hr : rd_L1 ls (i : Int) = ls[i] := by simp [rd_L1, List.getElem?_eq_getElem hi]
    rw [spec_Mro.l0, if_pos (by omega), if_pos (by omega), hr, List.drop_eq_getElem_cons hi, mroRes]
    by_cases e : ls[i] = []
    · rw [if_pos (by rw [e]; rfl), if_pos (by rw [e]; rfl)]
    · rw [if_neg (by have := List.length_pos_iff.2 e; omega), if_neg (by rw [List.isEmpty_iff]; exact e), wrapS i (by omega)]
      exact ih k (i + 1) (by omega) (by omega)
/-- The lines of classes, none where the classes are bad. -/
theorem lines_both (l : List S41) (h1 : l.length ≤ 1048576) (h2 : ∀ c ∈ l, c.f0.length ≤ 1048576 ∧ c.f1.length ≤ 1048576) (k : Nat) (hk : 21000000 ≤ k) :
    (okCls l = false ∧ spec_ClassesOk.f k l = some false ∧ impl_ClassesOk.f l = some false) ∨
    (okCls l = true ∧ spec_ClassesOk.f k l = some true ∧ impl_ClassesOk.f l = some true ∧ ∃ ls, impl_ylines.f l = some ls ∧ spec_l9Lines.f l = some ls ∧ okOut l.length ls ∧ ls.length ≤ 200 ∧ ∀ L ∈ ls, L.length ≤ 200) := by
  have e1 := specCls l (by omega) (fun c hc => by have := (h2 c hc).2; omega) k hk
  have e2 : impl_ClassesOk.f l = some (okCls l) := by
    unfold impl_ClassesOk.f
    rw [if_pos ⟨by omega, fun c hc => by have := h2 c hc; omega⟩]
  cases e : okCls l with
  | false =>
    rw [e] at e1 e2
    exact Or.inl ⟨rfl, e1, e2⟩
  | true =>
    rw [e] at e1 e2
    obtain ⟨ls, e3, ho⟩ := ylines_some l e
    have h200 : l.length ≤ 200 := by
      have h := e
      unfold okCls at h
      rw [Bool.and_eq_true, decide_eq_true_eq] at h
      exact h.1
    refine Or.inr ⟨rfl, e1, e2, ls, e3, by rw [← ylines_l9]; exact e3, ho, by rw [ho.1]; exact h200, fun L hL => ?_⟩
    obtain ⟨h5, h6⟩ := ho.2 L hL
    have := pigeon l.length L h5 h6
    omega
theorem fits_both (l : List S41) (h1 : l.length ≤ 1048576) (h2 : ∀ c ∈ l, c.f0.length ≤ 1048576 ∧ c.f1.length ≤ 1048576) (k : Nat) (hk : 21000000 ≤ k) :
    ∃ F : List Bool, spec_MroFits.f k l = some F ∧ impl_MroFits.f l = some F ∧ F.length ≤ 1000 := by
  unfold spec_MroFits.f impl_MroFits.f
  rcases lines_both l h1 h2 k hk with ⟨_, e1, e2⟩ | ⟨_, e1, e2, ls, e3, e4, _, h3, _⟩
  · refine ⟨[], ?_, ?_, by simp⟩
    · rw [Option.bind_some, e1, Option.bind_some, if_neg (by decide)]
    · rw [e2, Option.bind_some, if_pos rfl]
  · refine ⟨ls.map fun L => !L.isEmpty, ?_, ?_, by rw [List.length_map]; omega⟩
    · rw [Option.bind_some, e1, Option.bind_some, if_pos rfl, e4, Option.bind_some, show (0 : Int) = ((0 : Nat) : Int) from rfl, fits_loop ls (by omega) ls.length k 0 [] (by omega) rfl (by omega)]
      rfl
    · rw [e2, Option.bind_some, if_neg (by decide), e3, Option.bind_some, if_pos (by omega)]
theorem mroRes_rows (ls : List (List Int)) : ∀ (L : List (List Int)) (i : Nat), (mroRes ls L i).1 = ls ∨ (mroRes ls L i).1 = []
  | [], _ => Or.inl rfl
  | L :: r, i => by
    rw [mroRes]
    split
    · exact Or.inr rfl
    · exact mroRes_rows ls r (i + 1)
theorem mro_both (l : List S41) (h1 : l.length ≤ 1048576) (h2 : ∀ c ∈ l, c.f0.length ≤ 1048576 ∧ c.f1.length ≤ 1048576) (k : Nat) (hk : 21000000 ≤ k) :
    ∃ (F : List (List Int)) (n : Int), spec_Mro.f k l = some (F, n) ∧ impl_Mro.f l = some (F, n) ∧ F.length ≤ 1000 ∧ ∀ L ∈ F, L.length ≤ 1000 := by
  unfold spec_Mro.f impl_Mro.f
  rcases lines_both l h1 h2 k hk with ⟨_, e1, e2⟩ | ⟨_, e1, e2, ls, e3, e4, _, h3, h4⟩
  · refine ⟨[], -2, ?_, ?_, by simp, by simp⟩
    · rw [e1, Option.bind_some, if_neg (by decide)]
    · rw [e2, Option.bind_some, if_pos rfl]
  · refine ⟨(mroRes ls ls 0).1, (mroRes ls ls 0).2, ?_, ?_, ?_, ?_⟩
    · rw [e1, Option.bind_some, if_pos rfl, e4, Option.bind_some, show (0 : Int) = ((0 : Nat) : Int) from rfl, mro_loop ls (by omega) ls.length k 0 (by omega) (by omega)]
      rfl
    · rw [e2, Option.bind_some, if_neg (by decide), e3, Option.bind_some, if_pos (by omega)]
    · rcases mroRes_rows ls ls 0 with e | e
      · rw [e]; omega
      · rw [e]; simp
    · rcases mroRes_rows ls ls 0 with e | e
      · rw [e]; exact fun L hL => by have := h4 L hL; omega
      · rw [e]; simp

end Go.Proofs.Ytkclfbmgnhmkhaa.PC
