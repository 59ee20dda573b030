/- What the reader of a code gives, and that drawing classes comes to an end. Plain law; no condition beyond those of the theorems. -/
import Derived.Test.YtkclfbmgnhmkhaaPNx2
import Derived.Test.YtkclfbmgnhmkhaaMroZ
import Derived.Test.YtkclfbmgnhmkhaaAttZ
namespace Go.Proofs.Ytkclfbmgnhmkhaa.PC
open Go.RowKit Go.Proofs.YtkclfbmgnhmkhaaW.PrintWords Go.Proofs.YtkclfbmgnhmkhaaW.PrintLast
set_option linter.unusedVariables false
set_option linter.unusedSimpArgs false

/-- A reader at p over the bytes L. -/
structure Rdr (L : List Int) (p : Int) : Prop where
  hb : ∀ x ∈ L, 0 ≤ x ∧ x ≤ 255
  hl : L.length ≤ 140737488351232
  p0 : 0 ≤ p
  p1 : p ≤ L.length

theorem Rdr.mk0 (L : List Int) (hl : L.length ≤ 140737488351232) (hw : ∀ x ∈ L, (Lit.int .u8 x).wf = true) : Rdr L 0 :=
  ⟨fun x hx => by
    have := hw x hx
    simp only [Lit.wf, Bool.and_eq_true, decide_eq_true_eq] at this
    have h1 : IntKind.u8.min = 0 := rfl
    have h2 : IntKind.u8.max = 255 := rfl
    omega, hl, Int.le_refl _, by omega⟩

theorem next_some {L : List Int} {p : Int} (h : Rdr L p) : ∃ v p', spec_l1Rd_next.f L p = some (v, p') ∧ 0 ≤ v ∧ v ≤ 255 ∧ Rdr L p' := by
  obtain ⟨hb, hl, p0, p1⟩ := h
  unfold spec_l1Rd_next.f
  by_cases c : p ≥ (L.length : Int)
  · rw [if_pos c]
    exact ⟨0, p, rfl, by omega, by omega, hb, hl, p0, p1⟩
  · have w1 : wrap64 (p + 1) = p + 1 := wrap_in _ (by omega) (by omega)
    rw [if_neg c, w1, show p + 1 - 1 = p by omega, wrap_in p (by omega) (by omega), if_pos p0, if_pos (by omega)]
    have hi : p.toNat < L.length := by omega
    have hr : rd L p = L[p.toNat] := by
      unfold rd
      rw [List.getD_eq_getElem?_getD, List.getElem?_eq_getElem hi]
      rfl
    have hx := hb _ (List.getElem_mem hi)
    rw [hr, wrap_in _ (by omega) (by omega)]
    exact ⟨_, _, rfl, hx.1, hx.2, hb, hl, by omega, by omega⟩

theorem below_some {L : List Int} {p : Int} (h : Rdr L p) (n : Int) : ∃ v p', spec_l1Rd_below.f L p n = some (v, p') ∧ 0 ≤ v ∧ (v < n ∨ v = 0) ∧ Rdr L p' := by
  unfold spec_l1Rd_below.f
  by_cases c : n ≤ 1
  · rw [if_pos c]
    exact ⟨0, p, rfl, by omega, Or.inr rfl, h⟩
  · rw [if_neg c]
    by_cases c2 : n ≤ 256
    · obtain ⟨v, p', e, v0, v1, h'⟩ := next_some h
      rw [if_pos c2, e, Option.bind_some, if_neg (by omega)]
      refine ⟨_, _, rfl, ?_, Or.inl ?_, h'⟩
      · rw [Int.tmod_eq_emod_of_nonneg v0]; exact Int.emod_nonneg _ (by omega)
      · rw [Int.tmod_eq_emod_of_nonneg v0]; exact Int.emod_lt_of_pos _ (by omega)
    · obtain ⟨v, p', e, v0, v1, h'⟩ := next_some h
      obtain ⟨u, p2, e2, u0, u1, h2⟩ := next_some h'
      rw [if_neg c2, e, Option.bind_some]
      dsimp only
      rw [e2, Option.bind_some, if_neg (by omega)]
      dsimp only
      rw [wrap_in (v * 256) (by omega) (by omega), wrap_in (v * 256 + u) (by omega) (by omega)]
      refine ⟨_, _, rfl, ?_, Or.inl ?_, h2⟩
      · rw [Int.tmod_eq_emod_of_nonneg (by omega)]; exact Int.emod_nonneg _ (by omega)
      · rw [Int.tmod_eq_emod_of_nonneg (by omega)]; exact Int.emod_lt_of_pos _ (by omega)

theorem once_some {L : List Int} {p : Int} (h : Rdr L p) (n : Int) : ∃ b p', spec_l1Rd_once.f L p n = some (b, p') ∧ Rdr L p' := by
  obtain ⟨v, p', e, _, _, h'⟩ := below_some h n
  unfold spec_l1Rd_once.f
  rw [e, Option.bind_some]
  exact ⟨_, _, rfl, h'⟩


theorem size_some {L : List Int} {p : Int} (h : Rdr L p) (per most : Int) (h0 : 1 ≤ per) (h1 : 1 ≤ most) (h2 : most ≤ 1000000) : ∃ v p', spec_l1Rd_size.f L p per most = some (v, p') ∧ 1 ≤ v ∧ v ≤ most ∧ Rdr L p' := by
  have hl := h.hl
  unfold spec_l1Rd_size.f
  have hd : 0 ≤ (L.length : Int) / per ∧ (L.length : Int) / per ≤ (L.length : Int) := ⟨Int.ediv_nonneg (by omega) (by omega), Int.ediv_le_self _ (by omega)⟩
  rw [if_neg (by omega), wrap_in ((L.length : Int) / per) (by omega) (by omega), wrap_in (1 + (L.length : Int) / per) (by omega) (by omega)]
  by_cases c : 1 + (L.length : Int) / per > most
  · obtain ⟨v, p', e, v0, v1, h'⟩ := below_some h most
    rw [if_pos c, e, Option.bind_some]
    dsimp only
    rw [wrap_in (1 + v) (by omega) (by omega)]
    exact ⟨_, _, rfl, by omega, by omega, h'⟩
  · obtain ⟨v, p', e, v0, v1, h'⟩ := below_some h (1 + (L.length : Int) / per)
    rw [if_neg c, e, Option.bind_some]
    dsimp only
    rw [wrap_in (1 + v) (by omega) (by omega)]
    exact ⟨_, _, rfl, by omega, by omega, h'⟩

theorem named_ex (x : List S48) (n : ByteArray) (hx : x.length ≤ 10) (k : Nat) (hk : 2000000 ≤ k) : ∃ t, spec_l9Named.f k x n = some t := by
  rcases named_some x n (by omega) k (by omega) with ⟨t, _, e, _⟩ | ⟨e, _⟩
  · exact ⟨_, e⟩
  · exact ⟨_, e⟩
theorem attrs_loop {L : List Int} (n : Int) (hn : n ≤ 4) (d : Nat) : ∀ (k i : Nat) (x : List S48) (p : Int), Rdr L p → x.length ≤ i → n ≤ (i : Int) + d → i ≤ 4 → 3000000 + 2 * d < k → ∃ r p', spec_l9DrawAttrs.l0 k x n (i : Int) L p = some (r, p') ∧ r.length ≤ 4 ∧ Rdr L p' := by
  induction d with
  | zero =>
    intro k i x p h hx h1 hi h2
    obtain ⟨k, rfl⟩ : ∃ m, k = m + 1 := ⟨k - 1, by omega⟩
    rw [spec_l9DrawAttrs.l0, if_neg (by omega)]
    exact ⟨_, _, rfl, by omega, h⟩
  | succ d ih =>
    intro k i x p h hx h1 hi h2
    by_cases c : (i : Int) < n
    · obtain ⟨k, rfl⟩ : ∃ m, k = m + 2 := ⟨k - 2, by omega⟩
      obtain ⟨v, p1, e, v0, v1, h'⟩ := below_some h 5
      rw [show k + 2 = (k + 1) + 1 from rfl, spec_l9DrawAttrs.l0, if_pos c, e, Option.bind_some]
      dsimp only
      obtain ⟨t, et⟩ := named_ex x (strOfNums [(wrap64 (97 + v)) % 256]) (by omega) (k + 1) (by omega)
      rw [Option.bind_some, et, Option.bind_some]
      have fin : ∀ (b : Bool) (p2 : Int), Rdr L p2 → ∃ r p', spec_l9DrawAttrs.j1 (k + 1) x n (i : Int) (strOfNums [(wrap64 (97 + v)) % 256]) b L p2 = some (r, p') ∧ r.length ≤ 4 ∧ Rdr L p' := by
        intro b p2 h2'
        rw [spec_l9DrawAttrs.j1, wrapS i (by omega)]
        cases b with
        | true =>
          rw [if_pos rfl]
          exact ih k (i + 1) x p2 h2' (by omega) (by omega) (by omega) (by omega)
        | false =>
          rw [if_neg (by decide)]
          obtain ⟨u, p3, e3, _, _, h3⟩ := below_some h2' 3
          obtain ⟨q, p4, e4, _, _, h4⟩ := next_some h3
          rw [e3, Option.bind_some]
          dsimp only
          rw [e4, Option.bind_some]
          dsimp only
          rw [if_pos (by omega)]
          exact ih k (i + 1) _ p4 h4 (by rw [List.length_append]; simp; omega) (by omega) (by omega) (by omega)
      by_cases ct : t ≥ 0
      · obtain ⟨b, p2, e2, h2'⟩ := once_some h' 40
        rw [if_pos ct, e2, Option.bind_some]
        exact fin _ p2 h2'
      · rw [if_neg ct]
        exact fin _ p1 h'
    · obtain ⟨k, rfl⟩ : ∃ m, k = m + 1 := ⟨k - 1, by omega⟩
      rw [spec_l9DrawAttrs.l0, if_neg c]
      exact ⟨_, _, rfl, by omega, h⟩
theorem attrs_draw {L : List Int} {p : Int} (h : Rdr L p) (k : Nat) (hk : 3100000 ≤ k) : ∃ r p', spec_l9DrawAttrs.f k L p = some (r, p') ∧ r.length ≤ 4 ∧ Rdr L p' := by
  obtain ⟨v, p1, e, v0, v1, h1⟩ := below_some h 4
  unfold spec_l9DrawAttrs.f
  rw [e, Option.bind_some]
  dsimp only
  exact attrs_loop v (by omega) 4 k 0 [] p1 h1 (by simp) (by omega) (by omega) (by omega)

def okD (l : List S41) : Prop := ∀ c ∈ l, c.f0.length ≤ 10 ∧ c.f1.length ≤ 10
def goodD (L : List Int) (o : Option (List S41 × Int)) : Prop := ∃ r p', o = some (r, p') ∧ r.length ≤ 300 ∧ okD r ∧ Rdr L p'
theorem okD.snoc {l : List S41} {c : S41} (h : okD l) (h0 : c.f0.length ≤ 10) (h1 : c.f1.length ≤ 10) : okD (l ++ [c]) := fun x hx => by
  rcases List.mem_append.1 hx with hx | hx
  · exact h x hx
  · rw [List.mem_singleton.1 hx]
    exact ⟨h0, h1⟩
theorem l5_good {L : List Int} (d : Nat) : ∀ (k : Nat) (x : List S41) (p : Int), Rdr L p → okD x → x.length ≤ 250 → 202 ≤ x.length + d → d < k → goodD L (spec_l9Draw.l5 k x L p) := by
  induction d with
  | zero =>
    intro k x p h ho hx h1 h2
    obtain ⟨k, rfl⟩ : ∃ m, k = m + 1 := ⟨k - 1, by omega⟩
    obtain ⟨v, p1, e, v0, v1, h'⟩ := below_some h 2
    rw [spec_l9Draw.l5, e, Option.bind_some]
    dsimp only
    rw [wrap_in (200 + v) (by omega) (by omega), if_neg (by omega)]
    exact ⟨_, _, rfl, by omega, ho, h'⟩
  | succ d ih =>
    intro k x p h ho hx h1 h2
    obtain ⟨k, rfl⟩ : ∃ m, k = m + 1 := ⟨k - 1, by omega⟩
    obtain ⟨v, p1, e, v0, v1, h'⟩ := below_some h 2
    rw [spec_l9Draw.l5, e, Option.bind_some]
    dsimp only
    rw [wrap_in (200 + v) (by omega) (by omega)]
    by_cases c : (x.length : Int) < 200 + v
    · rw [if_pos c, if_pos (by omega)]
      have hl : (x ++ [(⟨[wrap64 ((x.length : Int) - 1)], []⟩ : S41)]).length = x.length + 1 := by rw [List.length_append]; rfl
      exact ih k _ p1 h' (ho.snoc (by simp) (by simp)) (by omega) (by omega) (by omega)
    · rw [if_neg c]
      exact ⟨_, _, rfl, by omega, ho, h'⟩
theorem j8_good {L : List Int} (k : Nat) (x : List S41) (p : Int) (h : Rdr L p) (ho : okD x) (hx : x.length ≤ 20) (hk : 300 < k) : goodD L (spec_l9Draw.j8 k x L p) := by
  obtain ⟨k, rfl⟩ : ∃ m, k = m + 1 := ⟨k - 1, by omega⟩
  obtain ⟨b, p1, e, h1⟩ := once_some h 60
  rw [spec_l9Draw.j8, e, Option.bind_some]
  dsimp only
  cases b with
  | true =>
    rw [if_pos rfl]
    exact l5_good 202 k x p1 h1 ho (by omega) (by omega) (by omega)
  | false =>
    rw [if_neg (by decide)]
    exact ⟨_, _, rfl, by omega, ho, h1⟩
theorem j7_good {L : List Int} (k : Nat) (x : List S41) (b : Bool) (hb : b = true → 0 < x.length) (p : Int) (h : Rdr L p) (ho : ∀ c ∈ x, c.f0.length ≤ 6 ∧ c.f1.length ≤ 10) (hx : x.length ≤ 20) (hk : 400 < k) : goodD L (spec_l9Draw.j7 k x b L p) := by
  obtain ⟨k, rfl⟩ : ∃ m, k = m + 1 := ⟨k - 1, by omega⟩
  have ho2 : okD x := fun c hc => by have := ho c hc; omega
  rw [spec_l9Draw.j7]
  cases b with
  | false =>
    rw [if_neg (by decide)]
    exact j8_good k x p h ho2 hx (by omega)
  | true =>
    have hp := hb rfl
    obtain ⟨v, p1, e, v0, v1, h1⟩ := below_some h (x.length : Int)
    rw [if_pos rfl, e, Option.bind_some]
    dsimp only
    rw [if_pos v0, if_pos (by omega)]
    obtain ⟨u, p2, e2, _, _, h2⟩ := below_some h1 (wrap64 ((x.length : Int) + 2))
    rw [e2, Option.bind_some]
    dsimp only
    obtain ⟨m, rfl⟩ : ∃ m : Nat, v = (m : Int) := ⟨v.toNat, by omega⟩
    have hm : m < x.length := by omega
    have hc := ho _ (List.getElem_mem hm)
    rw [rd41 x m hm, Int.toNat_natCast, if_pos (by omega)]
    refine j8_good k _ p2 h2 (fun c hc2 => ?_) (by rw [List.length_set]; exact hx) (by omega)
    rcases List.mem_or_eq_of_mem_set hc2 with h5 | h5
    · exact ho2 c h5
    · rw [h5]
      refine ⟨?_, ?_⟩
      · simp only [List.length_append, List.length_singleton]
        omega
      · show x[m].f1.length ≤ 10
        omega
section
variable {L : List Int} {n : Int} {i : Nat} {x4 : List S41} {B : Nat}
/-- What follows once a class's bases are drawn. -/
theorem fin_good (hl : x4.length ≤ 14) (ho : ∀ c ∈ x4, c.f0.length ≤ 6 ∧ c.f1.length ≤ 10) (hi : i ≤ 14) (ih : ∀ (k : Nat) (x : List S41) (p : Int), Rdr L p → (∀ c ∈ x, c.f0.length ≤ 6 ∧ c.f1.length ≤ 10) → x.length ≤ x4.length + 1 → B ≤ k → goodD L (spec_l9Draw.l0 k n x ((i + 1 : Nat) : Int) L p))
    (k : Nat) (x6 : List Int) (hx : x6.length ≤ 5) (p : Int) (h : Rdr L p) (hk : B + 3100000 ≤ k) :
    goodD L ((spec_l9DrawAttrs.f k L p).bind fun bt168 => (if x4.length < 2932031007402 then (spec_l9Draw.l0 k n (x4 ++ [(⟨x6, bt168.1⟩ : S41)]) (wrap64 ((i : Int) + 1)) L bt168.2) else (none))) := by
  obtain ⟨r, p1, e, hr, h1⟩ := attrs_draw h k (by omega)
  rw [e, Option.bind_some, if_pos (by omega), wrapS i (by omega)]
  refine ih k _ p1 h1 (fun c hc => ?_) (by rw [List.length_append]; simp) (by omega)
  rcases List.mem_append.1 hc with hc | hc
  · exact ho c hc
  · rw [List.mem_singleton.1 hc]
    exact ⟨by show x6.length ≤ 6; omega, by show r.length ≤ 10; omega⟩
theorem l4_good (hi : i ≤ 14) (q : Nat) (x6 : List Int) (hx : x6.length ≤ 5) (hq : q < x6.length) (C : Nat) (next : ∀ (k : Nat) (x : List Int) (p : Int), Rdr L p → x.length = x6.length → C ≤ k → goodD L (spec_l9Draw.l3 k n x4 (i : Int) x ((q + 1 : Nat) : Int) L p)) (d : Nat) :
    ∀ (k t : Nat) (x : List Int) (p : Int), Rdr L p → x.length = x6.length → t + d = x6.length → C + d + 1 ≤ k → goodD L (spec_l9Draw.l4 k n x4 (i : Int) x (q : Int) (t : Int) L p) := by
  induction d with
  | zero =>
    intro k t x p h hl ht hk
    obtain ⟨k, rfl⟩ : ∃ m, k = m + 1 := ⟨k - 1, by omega⟩
    rw [spec_l9Draw.l4, if_neg (by omega), wrapS q (by omega)]
    exact next k x p h hl (by omega)
  | succ d ih =>
    intro k t x p h hl ht hk
    obtain ⟨k, rfl⟩ : ∃ m, k = m + 1 := ⟨k - 1, by omega⟩
    rw [spec_l9Draw.l4, if_pos (by omega), if_pos (by omega), if_pos (by omega), if_pos (by omega), wrapS t (by omega)]
    split
    · exact ih k (t + 1) _ p h (by rw [List.length_set, List.length_set, hl]) (by omega) (by omega)
    · exact ih k (t + 1) x p h hl (by omega) (by omega)
theorem l3_good (hl : x4.length ≤ 14) (ho : ∀ c ∈ x4, c.f0.length ≤ 6 ∧ c.f1.length ≤ 10) (hi : i ≤ 14) (ih : ∀ (k : Nat) (x : List S41) (p : Int), Rdr L p → (∀ c ∈ x, c.f0.length ≤ 6 ∧ c.f1.length ≤ 10) → x.length ≤ x4.length + 1 → B ≤ k → goodD L (spec_l9Draw.l0 k n x ((i + 1 : Nat) : Int) L p)) (d : Nat) :
    ∀ (k q : Nat) (x6 : List Int) (p : Int), Rdr L p → x6.length ≤ 5 → q + d = x6.length → B + 3100000 + 8 * d + 1 ≤ k → goodD L (spec_l9Draw.l3 k n x4 (i : Int) x6 (q : Int) L p) := by
  induction d with
  | zero =>
    intro k q x6 p h hx hq hk
    obtain ⟨k, rfl⟩ : ∃ m, k = m + 1 := ⟨k - 1, by omega⟩
    rw [spec_l9Draw.l3, if_neg (by omega)]
    exact fin_good hl ho hi ih k x6 hx p h (by omega)
  | succ d ih3 =>
    intro k q x6 p h hx hq hk
    obtain ⟨k, rfl⟩ : ∃ m, k = m + 1 := ⟨k - 1, by omega⟩
    rw [spec_l9Draw.l3, if_pos (by omega), wrapS q (by omega)]
    exact l4_good hi q x6 hx (by omega) (B + 3100000 + 8 * d + 1) (fun k x p h hlx hk => ih3 k (q + 1) x p h (by omega) (by omega) hk) (x6.length - (q + 1)) k (q + 1) x6 p h rfl (by omega) (by omega)
theorem l2_good (hi : i ≤ 14) (x6 : List Int) (hx : x6.length ≤ 4) (x7 : Int) (s : Nat) (hs : s ≤ 4) (x9 : Int) (C : Nat) (next : ∀ (k : Nat) (x : List Int) (p : Int), Rdr L p → x.length ≤ x6.length + 1 → C ≤ k → goodD L (spec_l9Draw.l1 k n x4 (i : Int) x x7 ((s + 1 : Nat) : Int) L p)) (d : Nat) :
    ∀ (k t : Nat) (b : Bool) (p : Int), Rdr L p → t + d = x6.length → C + d + 1 ≤ k → goodD L (spec_l9Draw.l2 k n x4 (i : Int) x6 x7 (s : Int) x9 b (t : Int) L p) := by
  induction d with
  | zero =>
    intro k t b p h ht hk
    obtain ⟨k, rfl⟩ : ∃ m, k = m + 1 := ⟨k - 1, by omega⟩
    rw [spec_l9Draw.l2, if_neg (by omega), wrapS s (by omega)]
    have ha : (x6 ++ [x9]).length = x6.length + 1 := by rw [List.length_append]; rfl
    cases b with
    | true =>
      obtain ⟨c, p1, e, h1⟩ := once_some h 50
      rw [if_pos rfl, e, Option.bind_some]
      dsimp only
      cases c with
      | true =>
        rw [if_pos rfl, if_pos (by omega)]
        exact next k _ p1 h1 (by omega) (by omega)
      | false =>
        rw [if_neg (by decide)]
        exact next k _ p1 h1 (by omega) (by omega)
    | false =>
      rw [if_neg (by decide), if_pos (by omega)]
      exact next k _ p h (by omega) (by omega)
  | succ d ih =>
    intro k t b p h ht hk
    obtain ⟨k, rfl⟩ : ∃ m, k = m + 1 := ⟨k - 1, by omega⟩
    rw [spec_l9Draw.l2, if_pos (by omega), wrapS t (by omega)]
    cases b with
    | true =>
      rw [if_pos rfl]
      exact ih k (t + 1) _ p h (by omega) (by omega)
    | false =>
      rw [if_neg (by decide), if_pos (by omega)]
      exact ih k (t + 1) _ p h (by omega) (by omega)
theorem l1_good (hl : x4.length ≤ 14) (ho : ∀ c ∈ x4, c.f0.length ≤ 6 ∧ c.f1.length ≤ 10) (hi : i ≤ 14) (ih : ∀ (k : Nat) (x : List S41) (p : Int), Rdr L p → (∀ c ∈ x, c.f0.length ≤ 6 ∧ c.f1.length ≤ 10) → x.length ≤ x4.length + 1 → B ≤ k → goodD L (spec_l9Draw.l0 k n x ((i + 1 : Nat) : Int) L p)) (x7 : Int) (h7 : x7 ≤ 4) (d : Nat) :
    ∀ (k s : Nat) (x6 : List Int) (p : Int), Rdr L p → x6.length ≤ s → s + d = 4 → B + 3100100 + 20 * d ≤ k → goodD L (spec_l9Draw.l1 k n x4 (i : Int) x6 x7 (s : Int) L p) := by
  have fin : ∀ (k s : Nat) (x6 : List Int) (p : Int), Rdr L p → x6.length ≤ s → s ≤ 4 → B + 3100099 ≤ k → goodD L (spec_l9Draw.j2 k n x4 (i : Int) x6 x7 (s : Int) false L p) := by
    intro k s x6 p h hx hs hk
    obtain ⟨k, rfl⟩ : ∃ m, k = m + 1 := ⟨k - 1, by omega⟩
    obtain ⟨c, p1, e, h1⟩ := once_some h 4
    rw [spec_l9Draw.j2, if_neg (by decide), e, Option.bind_some]
    dsimp only
    cases c with
    | true =>
      rw [if_pos rfl]
      exact fin_good hl ho hi ih k x6 (by omega) p1 h1 (by omega)
    | false =>
      rw [if_neg (by decide)]
      exact l3_good hl ho hi ih x6.length k 0 x6 p1 h1 (by omega) (by omega) (by omega)
  induction d with
  | zero =>
    intro k s x6 p h hx hs hk
    obtain ⟨k, rfl⟩ : ∃ m, k = m + 1 := ⟨k - 1, by omega⟩
    rw [spec_l9Draw.l1, if_neg (by omega)]
    exact fin k s x6 p h hx (by omega) (by omega)
  | succ d ihd =>
    intro k s x6 p h hx hs hk
    obtain ⟨k, rfl⟩ : ∃ m, k = m + 1 := ⟨k - 1, by omega⟩
    rw [spec_l9Draw.l1]
    by_cases c : (s : Int) < x7
    · rw [if_pos c]
      by_cases c0 : (i : Int) > 0
      · rw [show decide ((i : Int) > 0) = true from decide_eq_true c0]
        obtain ⟨k, rfl⟩ : ∃ m, k = m + 1 := ⟨k - 1, by omega⟩
        have j3 : ∀ (v p2 : Int), Rdr L p2 → goodD L (spec_l9Draw.j3 k n x4 (i : Int) x6 x7 (s : Int) v L p2) := by
          intro v p2 h2
          obtain ⟨k, rfl⟩ : ∃ m, k = m + 1 := ⟨k - 1, by omega⟩
          rw [spec_l9Draw.j3]
          exact l2_good hi x6 (by omega) x7 s (by omega) v (B + 3100100 + 20 * d) (fun k x p h hlx hk => ihd k (s + 1) x p h (by omega) (by omega) hk) x6.length k 0 false p2 h2 (by omega) (by omega)
        obtain ⟨v, p1, e, _, _, h1⟩ := below_some h (i : Int)
        obtain ⟨b, p2, e2, h2⟩ := once_some h1 2
        rw [spec_l9Draw.j2, if_pos rfl, e, Option.bind_some]
        dsimp only
        rw [e2, Option.bind_some]
        dsimp only
        cases b with
        | true =>
          obtain ⟨u, p3, e3, _, _, h3⟩ := below_some h2 (i : Int)
          rw [if_pos rfl, e3, Option.bind_some]
          dsimp only
          split
          · exact j3 _ p3 h3
          · exact j3 _ p3 h3
        | false =>
          rw [if_neg (by decide)]
          exact j3 _ p2 h2
      · rw [show decide ((i : Int) > 0) = false from decide_eq_false c0]
        exact fin k s x6 p h hx (by omega) (by omega)
    · rw [if_neg c]
      exact fin k s x6 p h hx (by omega) (by omega)
end
theorem l0_good {L : List Int} (n : Int) (hn : n ≤ 14) (d : Nat) : ∀ (k i : Nat) (x : List S41) (p : Int), Rdr L p → (∀ c ∈ x, c.f0.length ≤ 6 ∧ c.f1.length ≤ 10) → x.length ≤ i → i + d = 14 → 3200000 * (d + 1) ≤ k → goodD L (spec_l9Draw.l0 k n x (i : Int) L p) := by
  have tail : ∀ (k i : Nat) (x : List S41) (p : Int), Rdr L p → (∀ c ∈ x, c.f0.length ≤ 6 ∧ c.f1.length ≤ 10) → x.length ≤ i → i ≤ 14 → 3200000 ≤ k → ¬ (i : Int) < n → goodD L (spec_l9Draw.l0 k n x (i : Int) L p) := by
    intro k i x p h ho hx hi hk hc
    obtain ⟨k, rfl⟩ : ∃ m, k = m + 1 := ⟨k - 1, by omega⟩
    obtain ⟨b, p1, e, h1⟩ := once_some h 20
    rw [spec_l9Draw.l0, if_neg hc, e, Option.bind_some]
    dsimp only
    cases b with
    | true =>
      rw [if_pos rfl]
      exact j7_good k x _ (fun hb => by have := of_decide_eq_true hb; omega) p1 h1 ho (by omega) (by omega)
    | false =>
      rw [if_neg (by decide)]
      exact j7_good k x _ (fun hb => by cases hb) p1 h1 ho (by omega) (by omega)
  induction d with
  | zero =>
    intro k i x p h ho hx hi hk
    exact tail k i x p h ho hx (by omega) (by omega) (by omega)
  | succ d ih =>
    intro k i x p h ho hx hi hk
    by_cases c : (i : Int) < n
    · obtain ⟨k, rfl⟩ : ∃ m, k = m + 1 := ⟨k - 1, by omega⟩
      obtain ⟨v, p1, e, v0, v1, h1⟩ := below_some h 4
      rw [spec_l9Draw.l0, if_pos c, e, Option.bind_some]
      dsimp only
      exact l1_good (B := 3200000 * (d + 1)) (by omega) ho (by omega) (fun k x p h ho hlx hk => ih k (i + 1) x p h ho (by omega) (by omega) hk) v (by omega) 4 k 0 [] p1 h1 (by simp) (by omega) (by omega)
    · exact tail k i x p h ho hx (by omega) (by omega) c
theorem draw_good (L : List Int) (p : Int) (h : Rdr L p) (k : Nat) (hk : 50000000 ≤ k) : goodD L (spec_l9Draw.f k L p) := by
  obtain ⟨v, p1, e, v0, v1, h1⟩ := size_some h 5 14 (by omega) (by omega) (by omega)
  unfold spec_l9Draw.f
  rw [e, Option.bind_some]
  dsimp only
  exact l0_good v (by omega) 14 k 0 [] p1 h1 (by simp) (by simp) (by omega) (by omega)

end Go.Proofs.Ytkclfbmgnhmkhaa.PC
