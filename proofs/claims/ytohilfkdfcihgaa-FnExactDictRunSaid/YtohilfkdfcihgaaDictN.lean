/- The copies and comparisons of the laws on dicts. Plain law; no condition beyond those of the theorems. -/
import Derived.Test.YtohilfkdfcihgaaPDix1
import Derived.Test.YtohilfkdfcihgaaPDix2
set_option linter.unusedVariables false
set_option linter.unusedSimpArgs false
namespace Go.Proofs.Ytohilfkdfcihgaa.DictW
open Go.RowKit Go.Proofs.Ytohilfkdfcihgaa.PDi Go.Proofs.YtohilfkdfcihgaaW.PrintWords Go.Proofs.YtohilfkdfcihgaaW.PrintLast Go.Proofs.YtohilfkdfcihgaaW.PrintMore

theorem take_set_succ {α : Type} {x3 x0 : List α} {i : Nat} {v : α} (h : x3.take i = x0.take i) (hl : x3.length = x0.length) (hv : x0[i]? = some v) : (x3.set i v).take (i + 1) = x0.take (i + 1) := by
  have hi : i < x0.length := (List.getElem?_eq_some_iff.1 hv).1
  apply List.ext_getElem?
  intro j
  by_cases hj : j < i
  · have := congrArg (fun l => l[j]?) h
    simp only [List.getElem?_take, hj, if_true] at this
    simp only [List.getElem?_take, show j < i + 1 by omega, if_true, List.getElem?_set, show i ≠ j by omega, if_false]
    exact this
  · by_cases hj2 : j = i
    · subst hj2
      simp only [List.getElem?_take, show j < j + 1 by omega, if_true, List.getElem?_set, hl, hi]
      exact hv.symm
    · simp only [List.getElem?_take, show ¬ j < i + 1 by omega, if_false]

theorem take_set_self {α : Type} {x : List α} {i : Nat} {v : α} (hi : i < x.length) : (x.set i v).take (i + 1) = x.take i ++ [v] := by
  apply List.ext_getElem?
  intro j
  rcases Nat.lt_trichotomy j i with h | h | h
  · rw [List.getElem?_append_left (by simp; omega)]
    simp only [List.getElem?_take, show j < i + 1 by omega, h, if_true, List.getElem?_set, show i ≠ j by omega, if_false]
  · subst h
    rw [List.getElem?_append_right (by simp; omega)]
    simp [hi, Nat.min_eq_left (Nat.le_of_lt hi)]
  · rw [List.getElem?_eq_none (by simp; omega), List.getElem?_eq_none (by simp; omega)]

theorem rd_at (x : List Int) (i : Nat) (h : i < x.length) : x[i]? = some (rd x (i : Int)) := by
  simp [rd, List.getElem?_eq_getElem h]

theorem wrap_succ (i : Nat) (h : i < 9000000000000000000) : wrap64 ((i : Int) + 1) = ((i + 1 : Nat) : Int) := by
  unfold wrap64
  omega

theorem wrap_in (i : Int) (h0 : -9223372036854775808 ≤ i) (h1 : i ≤ 9223372036854775807) : wrap64 i = i := by
  unfold wrap64
  omega

def seqFrom : Int → Nat → List Int
  | _, 0 => []
  | v, n + 1 => v :: seqFrom (v + 1) n

theorem seqFrom_length (n : Nat) : ∀ v, (seqFrom v n).length = n := by
  induction n with
  | zero => intro v; rfl
  | succ n ih => intro v; simp [seqFrom, ih]

theorem laws_eqInt64S_loop (x : List Int) (hn : x.length < 9000000000000000000) (d : Nat) : ∀ (k i : Nat), x.length = i + d → d < k → laws_eqInt64S.l0 k x x (i : Int) = some true := by
  induction d with
  | zero =>
    intro k i h1 h2
    obtain ⟨k, rfl⟩ : ∃ m, k = m + 1 := ⟨k - 1, by omega⟩
    simp only [laws_eqInt64S.l0]
    rw [if_neg (by omega)]
  | succ d ih =>
    intro k i h1 h2
    obtain ⟨k, rfl⟩ : ∃ m, k = m + 1 := ⟨k - 1, by omega⟩
    simp only [laws_eqInt64S.l0]
    rw [if_pos (by omega), if_pos (by omega), if_pos (by omega), if_pos trivial, wrap_succ i (by omega)]
    exact ih k (i + 1) (by omega) (by omega)

theorem laws_eqInt64S_some (x : List Int) (hn : x.length < 9000000000000000000) (k : Nat) (hk : x.length < k) : laws_eqInt64S.f k x x = some true := by
  unfold laws_eqInt64S.f
  rw [if_pos rfl]
  exact laws_eqInt64S_loop x hn x.length k 0 (by omega) hk

theorem to_loop (x : List Int) (hn : x.length < 9000000000000000000) (d : Nat) : ∀ (k i : Nat) (y : List Int), x.length = i + d → y.length = x.length → d < k → y.take i = x.take i → laws_toInt64S.l0 k x y (i : Int) = some x := by
  induction d with
  | zero =>
    intro k i y h1 h3 h2 h4
    obtain ⟨k, rfl⟩ : ∃ m, k = m + 1 := ⟨k - 1, by omega⟩
    simp only [laws_toInt64S.l0]
    rw [if_neg (by omega)]
    rw [List.take_of_length_le (by omega), List.take_of_length_le (by omega)] at h4
    rw [h4]
  | succ d ih =>
    intro k i y h1 h3 h2 h4
    obtain ⟨k, rfl⟩ : ∃ m, k = m + 1 := ⟨k - 1, by omega⟩
    simp only [laws_toInt64S.l0]
    simp only [if_pos (show (i : Int) < (x.length : Int) by omega), if_pos (show (0 : Int) ≤ (i : Int) by omega), if_pos (show (i : Int) < (y.length : Int) by omega), Int.toNat_natCast]
    rw [wrap_succ i (by omega)]
    exact ih k (i + 1) _ (by omega) (by rw [List.length_set]; exact h3) (by omega) (take_set_succ h4 h3 (rd_at x i (by omega)))

theorem toInt_some (x : List Int) (hn : x.length ≤ 35184372088832) (k : Nat) (hk : x.length < k) : laws_toInt64S.f k x = some x := by
  unfold laws_toInt64S.f
  rw [if_pos (by omega), if_pos (by omega)]
  exact to_loop x (by omega) x.length k 0 _ (by omega) (by simp) hk (by simp)

/-- The entry as the other kind. -/
def cv (e : S99) : S62 := ⟨e.f0, e.f1, e.f2, e.f3⟩

theorem rd99_at (x : List S99) (i : Nat) (h : i < x.length) : (x.map cv)[i]? = some ⟨(rd_T99 x (i : Int)).f0, (rd_T99 x (i : Int)).f1, (rd_T99 x (i : Int)).f2, (rd_T99 x (i : Int)).f3⟩ := by
  simp [rd_T99, List.getElem?_eq_getElem h, cv]

theorem toE_loop (x : List S99) (hn : x.length < 9000000000000000000) (d : Nat) : ∀ (k i : Nat) (y : List S62), x.length = i + d → y.length = x.length → d < k → y.take i = (x.map cv).take i → laws_toDEntryS.l0 k x y (i : Int) = some (x.map cv) := by
  induction d with
  | zero =>
    intro k i y h1 h3 h2 h4
    obtain ⟨k, rfl⟩ : ∃ m, k = m + 1 := ⟨k - 1, by omega⟩
    simp only [laws_toDEntryS.l0]
    rw [if_neg (by omega)]
    rw [List.take_of_length_le (by omega), List.take_of_length_le (by simp; omega)] at h4
    rw [h4]
  | succ d ih =>
    intro k i y h1 h3 h2 h4
    obtain ⟨k, rfl⟩ : ∃ m, k = m + 1 := ⟨k - 1, by omega⟩
    simp only [laws_toDEntryS.l0, laws_toDEntry.f, Option.bind_some]
    simp only [if_pos (show (i : Int) < (x.length : Int) by omega), if_pos (show (0 : Int) ≤ (i : Int) by omega), if_pos (show (i : Int) < (y.length : Int) by omega), Int.toNat_natCast]
    rw [wrap_succ i (by omega)]
    exact ih k (i + 1) _ (by omega) (by rw [List.length_set]; exact h3) (by omega) (take_set_succ h4 (by rw [List.length_map]; exact h3) (rd99_at x i (by omega)))

theorem toE_some (x : List S99) (hn : x.length ≤ 8796093022208) (k : Nat) (hk : x.length < k) : laws_toDEntryS.f k x = some (x.map cv) := by
  unfold laws_toDEntryS.f
  rw [if_pos (by omega), if_pos (by omega)]
  exact toE_loop x (by omega) x.length k 0 _ (by omega) (by simp) hk (by simp)

theorem eqE_loop (x : List S62) (hn : x.length < 9000000000000000000) (d : Nat) : ∀ (k i : Nat), x.length = i + d → d < k → laws_eqDEntryS.l0 k x x (i : Int) = some true := by
  induction d with
  | zero =>
    intro k i h1 h2
    obtain ⟨k, rfl⟩ : ∃ m, k = m + 1 := ⟨k - 1, by omega⟩
    simp only [laws_eqDEntryS.l0]
    rw [if_neg (by omega)]
  | succ d ih =>
    intro k i h1 h2
    obtain ⟨k, rfl⟩ : ∃ m, k = m + 1 := ⟨k - 1, by omega⟩
    have he : ∀ a b c f, laws_eqDEntry.f a b c f a b c f = some true := fun a b c f => by simp [laws_eqDEntry.f]
    simp only [laws_eqDEntryS.l0, he, Option.bind_some]
    rw [if_pos (by omega), if_pos (by omega), if_pos (by omega), if_pos trivial, wrap_succ i (by omega)]
    exact ih k (i + 1) (by omega) (by omega)

theorem eqE_some (x : List S62) (hn : x.length < 9000000000000000000) (k : Nat) (hk : x.length < k) : laws_eqDEntryS.f k x x = some true := by
  unfold laws_eqDEntryS.f
  rw [if_pos rfl]
  exact eqE_loop x hn x.length k 0 (by omega) hk

theorem eqDict_some (T : List Int) (E : List S62) (live : Int) (h1 : T.length < 9000000000000000000) (h2 : E.length < 9000000000000000000) (k : Nat) (hk1 : T.length < k) (hk2 : E.length < k) : laws_eqDict.f k T E live T E live = some true := by
  unfold laws_eqDict.f
  rw [laws_eqInt64S_some T h1 k hk1]
  simp only [Option.bind_some]
  rw [if_pos trivial, eqE_some E h2 k hk2]
  simp

theorem toDict_some (T : List Int) (E : List S99) (live : Int) (h1 : T.length ≤ 35184372088832) (h2 : E.length ≤ 8796093022208) (k : Nat) (hk1 : T.length < k) (hk2 : E.length < k) : laws_toDict.f k T E live = some (T, E.map cv, live) := by
  unfold laws_toDict.f
  rw [toInt_some T h1 k hk1, toE_some E h2 k hk2]
  rfl

theorem szDict_cases (T : List Int) (E : List S99) (live : Int) (h1 : T.length ≤ 35184372088832) (h2 : E.length ≤ 8796093022208) :
    (laws_szDict.f T E live 1048576 = some (-1)) ∨ (∃ v, laws_szDict.f T E live 1048576 = some v ∧ 0 ≤ v ∧ T.length ≤ 1048576 ∧ E.length ≤ 1048576) := by
  unfold laws_szDict.f laws_szInt64S.f laws_szDEntryS.f
  rw [wrap_in (1048576 - (T.length : Int)) (by omega) (by omega)]
  by_cases c1 : (1048576 - (T.length : Int)) < 0
  · rw [if_pos c1]
    simp
  · rw [if_neg c1]
    simp only [Option.bind_some]
    rw [if_neg c1, wrap_in _ (by omega) (by omega)]
    by_cases c2 : (1048576 - (T.length : Int) - (E.length : Int)) < 0
    · rw [if_pos c2]
      simp
    · rw [if_neg c2]
      simp only [Option.bind_some]
      rw [if_neg c2]
      exact Or.inr ⟨_, rfl, by omega, by omega, by omega⟩

end Go.Proofs.Ytohilfkdfcihgaa.DictW


set_option linter.unusedVariables false
set_option linter.unusedSimpArgs false
namespace Go.Proofs.Ytohilfkdfcihgaa.DictW
open Go.RowKit Go.Proofs.Ytohilfkdfcihgaa.PDi Go.Proofs.YtohilfkdfcihgaaW.PrintWords Go.Proofs.YtohilfkdfcihgaaW.PrintLast Go.Proofs.YtohilfkdfcihgaaW.PrintMore

theorem laws_heldInt64S_loop (d : Nat) : ∀ (k i : Nat) (x : List Int) (v : Int), x.drop i = seqFrom v d → x.length = i + d → x.length < 4000000000000000000 → 0 ≤ v → v + d < 9000000000000000000 → d < k → laws_heldInt64S.l0 k x v (i : Int) = some (v + d) := by
  induction d with
  | zero =>
    intro k i x v h0 h1 hx hv hvd h2
    obtain ⟨k, rfl⟩ : ∃ m, k = m + 1 := ⟨k - 1, by omega⟩
    simp only [laws_heldInt64S.l0]
    rw [if_neg (by omega)]
    simp
  | succ d ih =>
    intro k i x v h0 h1 hx hv hvd h2
    obtain ⟨k, rfl⟩ : ∃ m, k = m + 1 := ⟨k - 1, by omega⟩
    have hi : i < x.length := by omega
    rw [List.drop_eq_getElem_cons hi] at h0
    simp only [seqFrom, List.cons.injEq] at h0
    have hr : rd x (i : Int) = v := by rw [← h0.1]; simp [rd, List.getElem?_eq_getElem hi]
    simp only [laws_heldInt64S.l0]
    rw [if_pos (by omega), if_pos (by omega), if_pos hr, wrap_succ i (by omega), wrap_in (v + 1) (by omega) (by omega)]
    rw [ih k (i + 1) x (v + 1) h0.2 (by omega) hx (by omega) (by omega) (by omega)]
    congr 1
    omega

theorem laws_heldInt64S_some (n k : Nat) (hx : n < 4000000000000000000) (hk : n < k) : laws_heldInt64S.f k (seqFrom 1 n) 1 = some (1 + (n : Int)) := by
  unfold laws_heldInt64S.f
  exact laws_heldInt64S_loop n k 0 (seqFrom 1 n) 1 rfl (by rw [seqFrom_length]; omega) (by rw [seqFrom_length]; omega) (by omega) (by omega) hk

/-- A marked entry. -/
def mkE (v : Int) : S62 := ⟨v, v + 1, v + 2, (Int.tmod (v + 3) 3 == 0)⟩
def seqE : Int → Nat → List S62
  | _, 0 => []
  | v, n + 1 => mkE v :: seqE (v + 4) n
theorem seqE_length (n : Nat) : ∀ v, (seqE v n).length = n := by
  induction n with
  | zero => intro v; rfl
  | succ n ih => intro v; simp [seqE, ih]

theorem rd62_set (x : List S62) (i : Nat) (e : S62) (h : i < x.length) : rd_T62 (x.set i e) (i : Int) = e := by
  unfold rd_T62
  rw [List.getD_eq_getElem?_getD, Int.toNat_natCast, List.getElem?_set, if_pos rfl, if_pos h]
  rfl

theorem u64_small (x : Int) (h0 : 0 ≤ x) (h1 : x ≤ 18446744073709551615) : IntKind.u64.wrap x = x := by
  have : IntKind.u64.wrap x = x % 18446744073709551616 := rfl
  rw [this]
  omega

theorem heldE_loop (d : Nat) : ∀ (k i : Nat) (x : List S62) (v : Int), x.drop i = seqE v d → x.length = i + d → x.length < 1000000000000000000 → 0 ≤ v → v + 4 * d < 9000000000000000000 → d < k → laws_heldDEntryS.l0 k x v (i : Int) = some (v + 4 * d) := by
  induction d with
  | zero =>
    intro k i x v h0 h1 hx hv hvd h2
    obtain ⟨k, rfl⟩ : ∃ m, k = m + 1 := ⟨k - 1, by omega⟩
    simp only [laws_heldDEntryS.l0]
    rw [if_neg (by omega)]
    simp
  | succ d ih =>
    intro k i x v h0 h1 hx hv hvd h2
    obtain ⟨k, rfl⟩ : ∃ m, k = m + 1 := ⟨k - 1, by omega⟩
    have hi : i < x.length := by omega
    rw [List.drop_eq_getElem_cons hi] at h0
    simp only [seqE, List.cons.injEq] at h0
    have hr : rd_T62 x (i : Int) = mkE v := by rw [← h0.1]; simp [rd_T62, List.getElem?_eq_getElem hi]
    simp only [laws_heldDEntryS.l0]
    rw [hr, wrap_in (v + 1) (by omega) (by omega), wrap_in (v + 1 + 1) (by omega) (by omega), wrap_in (v + 1 + 1 + 1) (by omega) (by omega), wrap_in (v + 1 + 1 + 1 + 1) (by omega) (by omega), u64_small v hv (by omega)]
    have e1 : v + 1 + 1 = v + 2 := by omega
    have e2 : v + 2 + 1 = v + 3 := by omega
    have e3 : v + 3 + 1 = v + 4 := by omega
    rw [e1, e2, e3]
    rw [if_pos (by omega), if_pos (by omega), if_pos (by rfl), if_pos (by rfl), if_pos (by rfl), if_neg (by simp [mkE]), wrap_succ i (by omega)]
    rw [ih k (i + 1) x (v + 4) h0.2 (by omega) hx (by omega) (by omega) (by omega)]
    congr 1
    omega

theorem heldDict_some (n m : Nat) (live : Int) (h1 : n ≤ 1000000000) (h2 : m ≤ 1000000000) (k : Nat) (hk1 : n < k) (hk2 : m < k) :
    laws_heldDict.f k (seqFrom 1 n) (seqE (1 + (n : Int)) m) live 1 = some (1 + (n : Int) + 4 * m) := by
  unfold laws_heldDict.f
  rw [laws_heldInt64S_some n k (by omega) hk1]
  simp only [Option.bind_some]
  rw [if_neg (by omega)]
  unfold laws_heldDEntryS.f
  rw [show (0 : Int) = ((0 : Nat) : Int) from rfl, heldE_loop m k 0 (seqE (1 + (n : Int)) m) (1 + (n : Int)) rfl (by rw [seqE_length]; omega) (by rw [seqE_length]; omega) (by omega) (by omega) hk2]
  simp only [Option.bind_some]
  rw [if_neg (by omega)]

end Go.Proofs.Ytohilfkdfcihgaa.DictW

