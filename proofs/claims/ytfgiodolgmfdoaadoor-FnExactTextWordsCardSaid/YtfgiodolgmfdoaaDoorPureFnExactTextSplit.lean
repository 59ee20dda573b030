/- The law on TextSplit, as a Lean function, answers true. No condition beyond the statement's. -/
import Derived.Test.YtfgiodolgmfdoaaDoorPSx1
import Derived.Test.YtfgiodolgmfdoaaDoorSplitZ
namespace Go.Proofs.YtfgiodolgmfdoaaDoor.PT
open Go.RowKit Go.Proofs.YtfgiodolgmfdoaaDoorW.PrintWords Go.Proofs.YtfgiodolgmfdoaaDoorW.PrintLast
set_option linter.unusedVariables false
set_option linter.unusedSimpArgs false

theorem wrap_succ (i : Nat) (h : i < 9000000000000000000) : wrap64 ((i : Int) + 1) = ((i + 1 : Nat) : Int) := by
  rw [wrap_in _ (by omega) (by omega)]
  omega

theorem eqS_loop (x : List ByteArray) (hn : x.length < 9000000000000000000) (d : Nat) : ∀ (k i : Nat), x.length = i + d → d < k → laws_eqStringS.l0 k x x (i : Int) = some true := by
  induction d with
  | zero =>
    intro k i h1 h2
    obtain ⟨k, rfl⟩ : ∃ m, k = m + 1 := ⟨k - 1, by omega⟩
    rw [laws_eqStringS.l0, if_neg (by omega)]
  | succ d ih =>
    intro k i h1 h2
    obtain ⟨k, rfl⟩ : ∃ m, k = m + 1 := ⟨k - 1, by omega⟩
    rw [laws_eqStringS.l0, if_pos (by omega), if_pos (by omega), if_pos (by omega), if_pos rfl, wrap_succ i (by omega)]
    exact ih k (i + 1) (by omega) (by omega)

theorem eqS_some (x : List ByteArray) (hn : x.length < 9000000000000000000) (k : Nat) (hk : x.length < k) : laws_eqStringS.f k x x = some true := by
  unfold laws_eqStringS.f
  rw [if_pos rfl]
  exact eqS_loop x hn x.length k 0 (by omega) hk

theorem mt_loop (n : Nat) : ∀ (v : Int) (x : ByteArray), 0 ≤ v → v < ((10 ^ n : Nat) : Int) → v ≤ 1000000000 → x.size + n ≤ 1000 → ∃ m, ∀ k, n < k → laws_markText.l0 k v x = some m := by
  induction n with
  | zero =>
    intro v x h0 h1 h2 h3
    have h1' : v < 1 := h1
    refine ⟨(⟨#[109]⟩ : ByteArray) ++ x, fun k hk => ?_⟩
    obtain ⟨k, rfl⟩ : ∃ m, k = m + 1 := ⟨k - 1, by omega⟩
    rw [laws_markText.l0, if_neg (by omega), if_pos (by omega)]
  | succ n ih =>
    intro v x h0 h1 h2 h3
    by_cases hv : v > 0
    · have hs : (strOfNums [(wrap64 (48 + Int.tmod v 10)) % 256]).size = 1 := by rw [strOfNums_size]; rfl
      have hq : Int.tdiv v 10 = v / 10 := Int.tdiv_eq_ediv_of_nonneg h0
      have h10 : v / 10 < ((10 ^ n : Nat) : Int) := by
        rw [Nat.pow_succ] at h1
        omega
      obtain ⟨m, hm⟩ := ih (v / 10) (strOfNums [(wrap64 (48 + Int.tmod v 10)) % 256] ++ x) (by omega) h10 (by omega) (by rw [ByteArray.size_append, hs]; omega)
      refine ⟨m, fun k hk => ?_⟩
      obtain ⟨k, rfl⟩ : ∃ m, k = m + 1 := ⟨k - 1, by omega⟩
      rw [laws_markText.l0, if_pos hv, Option.bind_some, if_pos (by rw [hs]; omega), hq, wrap_in (v / 10) (by omega) (by omega)]
      exact hm k (by omega)
    · refine ⟨(⟨#[109]⟩ : ByteArray) ++ x, fun k hk => ?_⟩
      obtain ⟨k, rfl⟩ : ∃ m, k = m + 1 := ⟨k - 1, by omega⟩
      rw [laws_markText.l0, if_neg hv, if_pos (by omega)]

def MT (v : Int) : ByteArray := (laws_markText.f 50 v).getD ⟨#[]⟩

theorem mt_some (v : Int) (h0 : 1 ≤ v) (h1 : v ≤ 1000000) (k : Nat) (hk : 50 ≤ k) : laws_markText.f k v = some (MT v) := by
  obtain ⟨m, hm⟩ := mt_loop 10 v ⟨#[]⟩ (by omega) (by omega) (by omega) (by decide)
  have hf : ∀ k, 50 ≤ k → laws_markText.f k v = some m := by
    intro k hk
    unfold laws_markText.f
    rw [if_neg (by omega)]
    exact hm k (by omega)
  unfold MT
  rw [hf k hk, hf 50 (Nat.le_refl _)]
  rfl

def marks : Int → Nat → List ByteArray
  | _, 0 => []
  | v, n + 1 => MT v :: marks (v + 1) n
theorem marks_length (n : Nat) : ∀ v, (marks v n).length = n := by
  induction n with
  | zero => intro v; rfl
  | succ n ih => intro v; simp [marks, ih]

theorem take_set_self {α : Type} {x : List α} {i : Nat} {v : α} (hi : i < x.length) : (x.set i v).take (i + 1) = x.take i ++ [v] := by
  apply List.ext_getElem?
  intro j
  rcases Nat.lt_trichotomy j i with h | h | h
  · rw [List.getElem?_append_left (by simp; omega)]
    simp only [List.getElem?_take, show j < i + 1 by omega, h, if_true, List.getElem?_set, show i ≠ j by omega, if_false]
  · subst h
    rw [List.getElem?_append_right (by simp; omega)]
    simp [hi, Nat.min_eq_left (Nat.le_of_lt hi)]
  · rw [List.getElem?_eq_none (by simp; omega), List.getElem?_eq_none (by simp; omega)]

theorem markS_loop (d : Nat) : ∀ (k i : Nat) (x : List ByteArray) (v : Int), x.length = i + d → x.length ≤ 100000 → 1 ≤ v → v + d ≤ 900000 → d + 60 < k → laws_markStringS.l0 k x v (i : Int) = some (v + d, x.take i ++ marks v d) := by
  induction d with
  | zero =>
    intro k i x v h1 hx hv hvd h2
    obtain ⟨k, rfl⟩ : ∃ m, k = m + 1 := ⟨k - 1, by omega⟩
    rw [laws_markStringS.l0, if_neg (by omega), List.take_of_length_le (by omega)]
    simp [marks]
  | succ d ih =>
    intro k i x v h1 hx hv hvd h2
    obtain ⟨k, rfl⟩ : ∃ m, k = m + 1 := ⟨k - 1, by omega⟩
    rw [laws_markStringS.l0, if_pos (by omega), mt_some v hv (by omega) k (by omega), Option.bind_some, if_pos (by omega), wrap_succ i (by omega), Int.toNat_natCast, wrap_in (v + 1) (by omega) (by omega)]
    rw [ih k (i + 1) (x.set i (MT v)) (v + 1) (by rw [List.length_set]; omega) (by rw [List.length_set]; exact hx) (by omega) (by omega) (by omega), take_set_self (by omega)]
    simp only [marks, List.append_assoc, List.singleton_append]
    congr 2
    omega

theorem markS_some (x : List ByteArray) (k : Nat) (hx : x.length ≤ 100000) (hk : x.length + 60 < k) : laws_markStringS.f k x 1 = some (1 + (x.length : Int), marks 1 x.length) := by
  unfold laws_markStringS.f
  rw [show (0 : Int) = ((0 : Nat) : Int) from rfl, markS_loop x.length k 0 x 1 (by omega) hx (by omega) (by omega) hk]
  simp

theorem heldS_loop (d : Nat) : ∀ (k i : Nat) (x : List ByteArray) (v : Int), x.drop i = marks v d → x.length = i + d → x.length ≤ 100000 → 1 ≤ v → v + d ≤ 900000 → d + 60 < k → laws_heldStringS.l0 k x v (i : Int) = some (v + d) := by
  induction d with
  | zero =>
    intro k i x v h0 h1 hx hv hvd h2
    obtain ⟨k, rfl⟩ : ∃ m, k = m + 1 := ⟨k - 1, by omega⟩
    rw [laws_heldStringS.l0, if_neg (by omega)]
    simp
  | succ d ih =>
    intro k i x v h0 h1 hx hv hvd h2
    obtain ⟨k, rfl⟩ : ∃ m, k = m + 1 := ⟨k - 1, by omega⟩
    have hi : i < x.length := by omega
    rw [List.drop_eq_getElem_cons hi] at h0
    simp only [marks, List.cons.injEq] at h0
    have hr : rdOf ByteArray.empty x (i : Int) = MT v := by rw [← h0.1]; simp [rdOf, List.getElem?_eq_getElem hi]
    rw [laws_heldStringS.l0, if_pos (by omega), if_pos (by omega), mt_some v hv (by omega) k (by omega), Option.bind_some, hr, if_pos rfl, wrap_succ i (by omega), wrap_in (v + 1) (by omega) (by omega)]
    rw [ih k (i + 1) x (v + 1) h0.2 (by omega) hx (by omega) (by omega) (by omega)]
    congr 1
    omega

theorem heldS_some (n k : Nat) (hx : n ≤ 100000) (hk : n + 60 < k) : laws_heldStringS.f k (marks 1 n) 1 = some (1 + (n : Int)) := by
  unfold laws_heldStringS.f
  exact heldS_loop n k 0 (marks 1 n) 1 rfl (by rw [marks_length]; omega) (by rw [marks_length]; omega) (by omega) (by omega) hk

theorem splitLaw (s t : ByteArray) : laws_FnExactTextSplit.f 500000 s t = some true := by
  unfold laws_FnExactTextSplit.f
  by_cases c1 : (s.size : Int) > 1048576
  · rw [if_pos c1]
  · rw [if_neg c1]
    by_cases c2 : (t.size : Int) > 1048576
    · rw [if_pos c2]
    · rw [if_neg c2, specSplit]
      obtain ⟨⟨r1, r2⟩, hr, hl⟩ : ∃ r : List ByteArray × Int, impl_TextSplit.f s t = some r ∧ r.1.length ≤ 20000 := by
        unfold impl_TextSplit.f
        refine ⟨_, rfl, ?_⟩
        split
        · rename_i h
          obtain ⟨h1, h2, h3⟩ := h
          show (Lib.splitB t 0 (Lib.countB s t) s).length ≤ 20000
          have := Lib.countB_le t (by omega) s.size s (Nat.le_refl _)
          have hs := okB_size h1
          rw [Lib.splitB_all t (by omega) 0 _ s rfl]
          omega
        · simp
      simp only at hl
      rw [hr, Option.bind_some, Option.bind_some]
      dsimp only
      rw [eqS_some r1 (by omega) 500000 (by omega), Option.bind_some, if_pos rfl, show (500000 : Nat) = 499999 + 1 from rfl, laws_FnExactTextSplit.j0, if_neg (by simp), markS_some r1 _ (by omega) (by omega), Option.bind_some]
      dsimp only
      rw [heldS_some r1.length _ (by omega) (by omega), Option.bind_some, if_neg (by omega), if_pos rfl, hr, Option.bind_some]
      dsimp only
      rw [eqS_some r1 (by omega) _ (by omega), Option.bind_some, if_pos rfl, show (499999 : Nat) = 499998 + 1 from rfl, laws_FnExactTextSplit.j1, if_neg (by simp), heldS_some r1.length _ (by omega) (by omega), Option.bind_some, if_neg (by omega), if_pos rfl]

end Go.Proofs.YtfgiodolgmfdoaaDoor.PT
