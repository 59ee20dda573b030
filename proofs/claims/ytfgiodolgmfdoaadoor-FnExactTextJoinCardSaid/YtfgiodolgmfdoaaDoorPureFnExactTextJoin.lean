/- The law on TextJoin, as a Lean function, answers true. No condition beyond the statement's. -/
import Derived.Test.YtfgiodolgmfdoaaDoorPTx6
import Derived.Test.YtfgiodolgmfdoaaDoorPureFnExactTextSplit
namespace Go.Proofs.YtfgiodolgmfdoaaDoor.PT
open Go.RowKit Go.Proofs.YtfgiodolgmfdoaaDoorW.PrintWords Go.Proofs.YtfgiodolgmfdoaaDoorW.PrintLast
set_option linter.unusedVariables false
set_option linter.unusedSimpArgs false

theorem rdOf_get (l : List ByteArray) (i : Nat) (h : i < l.length) : rdOf ByteArray.empty l (i : Int) = l[i] := by
  simp [rdOf, List.getElem?_eq_getElem h]

theorem specJoin_last (sep : ByteArray) (l : List ByteArray) (hn : l.length ≤ 1048576) (k : Nat) (b : Bool) (hb : b = true → okB sep = true ∧ ∀ x ∈ l, okB x = true) :
    spec_TextJoin.j1 (k + 1) sep l b = some (if b = true then (if 16384 < (joinD sep l).length then (⟨#[]⟩, 3) else (⟨(joinD sep l).toArray⟩, 0)) else (⟨#[]⟩, 1)) := by
  rw [spec_TextJoin.j1]
  by_cases h : b = true
  · obtain ⟨h0, h1⟩ := hb h
    rw [if_pos h, if_pos h]
    exact join_fit sep l (by have := okB_size h0; omega) (fun x hx => by have := okB_size (h1 x hx); omega) (by omega)
  · rw [if_neg h, if_neg h]

theorem specJoin_loop (sep : ByteArray) (l : List ByteArray) (hn : l.length ≤ 1048576) (d : Nat) : ∀ (k i : Nat) (b : Bool), l.length = i + d → 400000 + d + 2 ≤ k → (b = true → okB sep = true ∧ ∀ x ∈ l.take i, okB x = true) →
    spec_TextJoin.l0 k sep l b (i : Int) = some (if b = true ∧ ∀ x ∈ l.drop i, okB x = true then (if 16384 < (joinD sep l).length then (⟨#[]⟩, 3) else (⟨(joinD sep l).toArray⟩, 0)) else (⟨#[]⟩, 1)) := by
  induction d with
  | zero =>
    intro k i b h1 h2 hb
    obtain ⟨k, rfl⟩ : ∃ m, k = m + 2 := ⟨k - 2, by omega⟩
    have e1 : l.take i = l := List.take_of_length_le (by omega)
    have e2 : l.drop i = [] := List.drop_eq_nil_of_le (by omega)
    rw [spec_TextJoin.l0, if_neg (by omega), specJoin_last sep l hn k b (fun h => by rw [← e1]; exact ⟨(hb h).1, by rw [e1]; exact e1 ▸ (hb h).2⟩), e2]
    congr 1
    generalize (if 16384 < (joinD sep l).length then ((⟨#[]⟩ : ByteArray), (3 : Int)) else (⟨(joinD sep l).toArray⟩, 0)) = F
    by_cases h : b = true
    · rw [if_pos h, if_pos ⟨h, by simp⟩]
    · rw [if_neg h, if_neg (fun hh => h hh.1)]
  | succ d ih =>
    intro k i b h1 h2 hb
    obtain ⟨k, rfl⟩ : ∃ m, k = m + 2 := ⟨k - 2, by omega⟩
    have hi : i < l.length := by omega
    have e1 : l.drop i = l[i] :: l.drop (i + 1) := List.drop_eq_getElem_cons hi
    have e2 : l.take (i + 1) = l.take i ++ [l[i]] := by rw [List.take_add_one, List.getElem?_eq_getElem hi]; rfl
    rw [spec_TextJoin.l0, if_pos (by omega)]
    by_cases h : b = true
    · rw [if_pos h, if_pos (by omega), rdOf_get l i hi, specOk _ (k + 1) (by omega), Option.bind_some, wrap_succ i (by omega)]
      rw [ih (k + 1) (i + 1) (okB l[i]) (by omega) (by omega) (fun hh => ⟨(hb h).1, fun x hx => by
        rw [e2] at hx
        rcases List.mem_append.1 hx with hx | hx
        · exact (hb h).2 x hx
        · rw [List.mem_singleton] at hx
          rw [hx]
          exact hh⟩)]
      congr 1
      rw [e1]
      generalize (if 16384 < (joinD sep l).length then ((⟨#[]⟩ : ByteArray), (3 : Int)) else (⟨(joinD sep l).toArray⟩, 0)) = F
      by_cases g : okB l[i] = true ∧ ∀ x ∈ l.drop (i + 1), okB x = true
      · rw [if_pos g, if_pos ⟨h, fun x hx => by
          rcases List.mem_cons.1 hx with hx | hx
          · rw [hx]
            exact g.1
          · exact g.2 x hx⟩]
      · rw [if_neg g, if_neg (fun hh => g ⟨hh.2 _ List.mem_cons_self, fun x hx => hh.2 x (List.mem_cons_of_mem _ hx)⟩)]
    · rw [if_neg h, if_neg (fun hh => h hh.1)]
      obtain rfl : b = false := by simpa using h
      rw [specJoin_last sep l hn k false (fun hh => by cases hh), if_neg (by decide)]

theorem specJoin (sep : ByteArray) (l : List ByteArray) (hn : l.length ≤ 1048576) (k : Nat) (hk : 1600000 ≤ k) : spec_TextJoin.f k sep l = some (joinA sep l) := by
  unfold spec_TextJoin.f joinA
  rw [specOk sep k (by omega), Option.bind_some, show (0 : Int) = ((0 : Nat) : Int) from rfl, specJoin_loop sep l hn l.length k 0 (okB sep) (by omega) (by omega) (fun h => ⟨h, by simp⟩)]
  rfl

/-! ### the law's helpers -/
theorem toS_loop (x : List ByteArray) (hn : x.length < 9000000000000000000) (d : Nat) : ∀ (k i : Nat) (y : List ByteArray), x.length = i + d → y.length = x.length → y.take i = x.take i → d < k → laws_toStringS.l0 k x y (i : Int) = some x := by
  induction d with
  | zero =>
    intro k i y h1 hy ht h2
    obtain ⟨k, rfl⟩ : ∃ m, k = m + 1 := ⟨k - 1, by omega⟩
    rw [laws_toStringS.l0, if_neg (by omega)]
    rw [List.take_of_length_le (by omega), List.take_of_length_le (by omega)] at ht
    rw [ht]
  | succ d ih =>
    intro k i y h1 hy ht h2
    obtain ⟨k, rfl⟩ : ∃ m, k = m + 1 := ⟨k - 1, by omega⟩
    rw [laws_toStringS.l0, if_pos (by omega), if_pos (by omega), if_pos (by omega), wrap_succ i (by omega), Int.toNat_natCast, rdOf_get x i (by omega)]
    refine ih k (i + 1) _ (by omega) (by rw [List.length_set]; exact hy) ?_ (by omega)
    rw [take_set_self (by omega), ht, List.take_add_one, List.getElem?_eq_getElem (by omega)]
    rfl

theorem toS_some (x : List ByteArray) (hn : x.length ≤ 1048576) (k : Nat) (hk : x.length < k) : laws_toStringS.f k x = some x := by
  unfold laws_toStringS.f
  rw [if_pos (by omega), if_pos (by omega)]
  exact toS_loop x (by omega) x.length k 0 _ (by omega) (by simp) (by simp) hk

theorem szS_loop (x : List ByteArray) (d : Nat) : ∀ (k i : Nat) (v : Int), x.length = i + d → x.length ≤ 1048576 → 0 ≤ v → v ≤ 1048576 → d < k → (∀ y ∈ x, y.size ≤ 9000000000000000000) →
    ∃ r, laws_szStringS.l0 k x v (i : Int) = some r ∧ (r < 0 ∨ ∀ y ∈ x.drop i, y.size ≤ 1048576) := by
  induction d with
  | zero =>
    intro k i v h1 hx h0 hv h2 hy
    obtain ⟨k, rfl⟩ : ∃ m, k = m + 1 := ⟨k - 1, by omega⟩
    rw [laws_szStringS.l0, if_neg (by omega)]
    exact ⟨_, rfl, Or.inr (by rw [List.drop_eq_nil_of_le (by omega)]; simp)⟩
  | succ d ih =>
    intro k i v h1 hx h0 hv h2 hy
    obtain ⟨k, rfl⟩ : ∃ m, k = m + 1 := ⟨k - 1, by omega⟩
    have hi : i < x.length := by omega
    have hyi := hy x[i] (List.getElem_mem hi)
    rw [laws_szStringS.l0, if_pos (by omega), if_pos (by omega), rdOf_get x i hi, wrap_in (v - (x[i].size : Int)) (by omega) (by omega)]
    by_cases hc : v - (x[i].size : Int) < 0
    · rw [if_pos hc]
      exact ⟨_, rfl, Or.inl (by decide)⟩
    · rw [if_neg hc, wrap_succ i (by omega)]
      obtain ⟨r, hr, hrr⟩ := ih k (i + 1) (v - (x[i].size : Int)) (by omega) hx (by omega) (by omega) (by omega) hy
      refine ⟨r, hr, hrr.imp id fun h y hyy => ?_⟩
      rw [List.drop_eq_getElem_cons hi] at hyy
      rcases List.mem_cons.1 hyy with e | e
      · rw [e]
        omega
      · exact h y e

theorem szS_some (x : List ByteArray) (hl : x.length ≤ 9000000000000000000) (hy : ∀ y ∈ x, y.size ≤ 9000000000000000000) : ∃ r, laws_szStringS.f 2000000 x 1048576 = some r ∧ (r < 0 ∨ (x.length ≤ 1048576 ∧ ∀ y ∈ x, y.size ≤ 1048576)) := by
  unfold laws_szStringS.f
  rw [wrap_in (1048576 - (x.length : Int)) (by omega) (by omega)]
  by_cases hc : 1048576 - (x.length : Int) < 0
  · rw [if_pos hc]
    exact ⟨_, rfl, Or.inl (by decide)⟩
  · rw [if_neg hc]
    obtain ⟨r, hr, hrr⟩ := szS_loop x x.length 2000000 0 (1048576 - (x.length : Int)) (by omega) (by omega) (by omega) (by omega) (by omega) hy
    exact ⟨r, hr, hrr.imp id fun h => ⟨by omega, h⟩⟩

theorem joinLaw (s : ByteArray) (l : List ByteArray) (hl : l.length ≤ 9000000000000000000) (hy : ∀ y ∈ l, y.size ≤ 9000000000000000000) : laws_FnExactTextJoin.f 2000000 s l = some true := by
  unfold laws_FnExactTextJoin.f
  by_cases c1 : (s.size : Int) > 1048576
  · rw [if_pos c1]
  · rw [if_neg c1]
    obtain ⟨r, hr, hrr⟩ := szS_some l hl hy
    rw [hr, Option.bind_some]
    by_cases c2 : r < 0
    · rw [if_pos c2]
    · rw [if_neg c2]
      obtain ⟨h1, h2⟩ : l.length ≤ 1048576 ∧ ∀ y ∈ l, y.size ≤ 1048576 := by
        rcases hrr with h | h
        · exact absurd h c2
        · exact h
      have hi : impl_TextJoin.f s l = some (joinA s l) := by
        unfold impl_TextJoin.f
        rw [if_pos ⟨by omega, h2, h1⟩]
      rw [toS_some l h1 _ (by omega), Option.bind_some, specJoin s l h1 _ (by omega), Option.bind_some, Option.bind_some, hi, Option.bind_some, if_pos rfl, show (2000000 : Nat) = 1999999 + 1 from rfl, laws_FnExactTextJoin.j0, if_neg (by simp), toS_some l h1 _ (by omega), Option.bind_some, eqS_some l (by omega) _ (by omega), Option.bind_some, if_pos rfl]

end Go.Proofs.YtfgiodolgmfdoaaDoor.PT
