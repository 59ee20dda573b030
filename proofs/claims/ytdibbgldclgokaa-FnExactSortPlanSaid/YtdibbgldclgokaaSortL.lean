/- The sort in plain words, asked about keys: its order is ascending and stable, and what it asks. No condition beyond those of the theorems. -/
import Derived.Test.YtdibbgldclgokaaSortM
set_option linter.unusedSimpArgs false
set_option linter.unusedVariables false
namespace Go.Proofs.Ytdibbgldclgokaa.SortM

def ky (l : List Int) (a : Int) : Int := l.getD a.toNat 0
def Lt (l : List Int) (a b : Int) : Prop := ky l a < ky l b ∨ (ky l a = ky l b ∧ a < b)
/-- A question about two things of n, not the same one. -/
def Okp (n : Int) (p : Int × Int) : Prop := 0 ≤ p.1 ∧ p.1 < n ∧ 0 ≤ p.2 ∧ p.2 < n ∧ p.1 ≠ p.2
/-- Keys that answer. -/
def byKeys (l : List Int) : Oracle := fun _ a b => some (decide (ky l a < ky l b))

theorem Lt.trans {l : List Int} {a b c : Int} (h : Lt l a b) (k : Lt l b c) : Lt l a c := by
  unfold Lt at *
  omega
theorem Lt.irrefl {l : List Int} {a : Int} (h : Lt l a a) : False := by
  unfold Lt at h
  omega

section
variable {l : List Int} {n : Int}

theorem ascend_does (down : Bool) : ∀ (f : Nat) (s : Asked) (i : Int), 1 ≤ i → i ≤ n → ∃ j t, ascend (byKeys l) n down f s i = (s ++ t, some j) ∧ i ≤ j ∧ j ≤ n ∧ (∀ p ∈ t, Okp n p) ∧
    (∀ m, i ≤ m → m < j → decide (ky l m < ky l (m - 1)) = down) ∧ j - i ≤ (t.length : Int)
  | 0, s, i, h1, hn => ⟨i, [], by rw [ascend, List.append_nil], by omega, hn, fun p hp => (by cases hp), fun m h h2 => by omega, by simp⟩
  | f + 1, s, i, h1, hn => by
    rw [ascend]
    by_cases hc : i < n
    · rw [if_pos hc]
      by_cases hb : decide (ky l i < ky l (i - 1)) = down
      · obtain ⟨j, t, e, h2, h3, h4, h5, h6⟩ := ascend_does down f (s ++ [(i, i - 1)]) (i + 1) (by omega) (by omega)
        refine ⟨j, (i, i - 1) :: t, ?_, by omega, h3, fun p hp => ?_, fun m hm hm2 => ?_, by rw [List.length_cons]; omega⟩
        · show (if decide (ky l i < ky l (i - 1)) = down then _ else _) = _
          rw [if_pos hb, e, List.append_assoc]
          rfl
        · rcases List.mem_cons.1 hp with rfl | hp
          · exact ⟨by show 0 ≤ i; omega, hc, by show 0 ≤ i - 1; omega, by show i - 1 < n; omega, by show i ≠ i - 1; omega⟩
          · exact h4 p hp
        · by_cases he : m = i
          · rw [he]; exact hb
          · exact h5 m (by omega) hm2
      · refine ⟨i, [(i, i - 1)], ?_, by omega, hn, fun p hp => ?_, fun m h h2 => by omega, by simp⟩
        · show (if decide (ky l i < ky l (i - 1)) = down then _ else _) = _
          rw [if_neg hb]
        · rw [List.mem_singleton.1 hp]
          exact ⟨by show 0 ≤ i; omega, hc, by show 0 ≤ i - 1; omega, by show i - 1 < n; omega, by show i ≠ i - 1; omega⟩
    · rw [if_neg hc]
      exact ⟨i, [], by rw [List.append_nil], by omega, hn, fun p hp => (by cases hp), fun m h h2 => by omega, by simp⟩

theorem span_len (i : Int) : ∀ k, (span i k).length = k
  | 0 => rfl
  | k + 1 => by rw [span, List.length_append, span_len i k]; rfl
theorem mem_span {i x : Int} : ∀ {k : Nat}, x ∈ span i k → i ≤ x ∧ x < i + k
  | 0, h => by cases h
  | k + 1, h => by
    rw [span] at h
    rcases List.mem_append.1 h with h | h
    · have := mem_span h
      omega
    · rw [List.mem_singleton.1 h]
      omega
theorem up_mono {i : Int} : ∀ (k : Nat) (y : Int), y < i + k → (∀ m, i < m → m < i + k → ky l (m - 1) ≤ ky l m) → ∀ (d : Nat) (x : Int), i ≤ x → x + d = y → ky l x ≤ ky l y
  | k, y, hy, h, 0, x, hx, e => by rw [show x = y by omega]; exact Int.le_refl _
  | k, y, hy, h, d + 1, x, hx, e => by
    have h1 := up_mono k y hy h d (x + 1) (by omega) (by omega)
    have h2 := h (x + 1) (by omega) (by omega)
    rw [show x + 1 - 1 = x by omega] at h2
    omega
theorem down_mono {i : Int} : ∀ (k : Nat) (y : Int), y < i + k → (∀ m, i < m → m < i + k → ky l m < ky l (m - 1)) → ∀ (d : Nat) (x : Int), i ≤ x → x + (d + 1) = y → ky l y < ky l x
  | k, y, hy, h, 0, x, hx, e => by
    have h2 := h y (by omega) hy
    rw [show y - 1 = x by omega] at h2
    exact h2
  | k, y, hy, h, d + 1, x, hx, e => by
    have h1 := down_mono k y hy h d (x + 1) (by omega) (by omega)
    have h2 := h (x + 1) (by omega) (by omega)
    rw [show x + 1 - 1 = x by omega] at h2
    omega
theorem span_up {i : Int} : ∀ (k : Nat), (∀ m, i < m → m < i + k → ky l (m - 1) ≤ ky l m) → (span i k).Pairwise (Lt l)
  | 0, h => List.Pairwise.nil
  | k + 1, h => by
    rw [span]
    refine List.pairwise_append.2 ⟨span_up k (fun m h1 h2 => h m h1 (by omega)), List.pairwise_singleton _ _, fun x hx y hy => ?_⟩
    rw [List.mem_singleton.1 hy]
    have hx := mem_span hx
    have := up_mono (k + 1) (i + k) (by omega) h (i + k - x).toNat x hx.1 (by omega)
    unfold Lt
    omega
theorem span_down {i : Int} : ∀ (k : Nat), (∀ m, i < m → m < i + k → ky l m < ky l (m - 1)) → (span i k).Pairwise (fun a b => Lt l b a)
  | 0, h => List.Pairwise.nil
  | k + 1, h => by
    rw [span]
    refine List.pairwise_append.2 ⟨span_down k (fun m h1 h2 => h m h1 (by omega)), List.pairwise_singleton _ _, fun x hx y hy => ?_⟩
    rw [List.mem_singleton.1 hy]
    have hx := mem_span hx
    have := down_mono (k + 1) (i + k) (by omega) h (i + k - x - 1).toNat x hx.1 (by omega)
    unfold Lt
    omega

theorem place_does {run : List Int} {i : Int} (hs : run.Pairwise (Lt l)) (hr : ∀ e ∈ run, 0 ≤ e ∧ e < i) (hi : i < n) (h0 : 0 ≤ i) : ∀ (f : Nat) (s : Asked) (lo hi : Nat), lo ≤ hi → hi ≤ run.length → hi - lo ≤ f →
    (∀ k, (h : k < run.length) → k < lo → ¬ ky l i < ky l run[k]) → (∀ k, (h : k < run.length) → hi ≤ k → ky l i < ky l run[k]) →
    ∃ p t, place (byKeys l) run i f s lo hi = (s ++ t, some p) ∧ p ≤ run.length ∧ (∀ k, (h : k < run.length) → k < p → ¬ ky l i < ky l run[k]) ∧ (∀ k, (h : k < run.length) → p ≤ k → ky l i < ky l run[k]) ∧ (∀ p ∈ t, Okp n p) ∧ (lo < hi → 1 ≤ t.length)
  | 0, s, lo, hi, h1, h2, h3, h4, h5 => ⟨lo, [], by rw [place, List.append_nil], by omega, h4, fun k h hk => h5 k h (by omega), fun p hp => (by cases hp), fun h => by omega⟩
  | f + 1, s, lo, hi, h1, h2, h3, h4, h5 => by
    have hmono : ∀ (a b : Nat) (ha : a < run.length) (hb : b < run.length), a < b → ky l run[a] ≤ ky l run[b] := fun a b ha hb hab => by
      have := List.pairwise_iff_getElem.1 hs a b ha hb hab
      unfold Lt at this
      omega
    rw [place]
    by_cases hc : lo < hi
    · rw [if_pos hc]
      have hm : (lo + hi) / 2 < run.length := by omega
      have hg : run.getD ((lo + hi) / 2) 0 = run[(lo + hi) / 2] := by rw [List.getD_eq_getElem?_getD, List.getElem?_eq_getElem hm]; rfl
      have hem := hr _ (List.getElem_mem hm)
      obtain ⟨md, hmd⟩ : ∃ m, (lo + hi) / 2 = m := ⟨_, rfl⟩
      rw [hg]
      simp only [hmd] at hm hem ⊢
      obtain ⟨e, he⟩ : ∃ e, run[md] = e := ⟨_, rfl⟩
      rw [he] at hem ⊢
      have hok : Okp n (i, e) := ⟨h0, by assumption, hem.1, by show e < n; omega, by show i ≠ e; omega⟩
      by_cases hb : ky l i < ky l e
      · have ho : byKeys l s.length i e = some true := by unfold byKeys; rw [decide_eq_true hb]
        obtain ⟨p, t, e1, e2, e3, e4, e5, e6⟩ := place_does hs hr (by assumption) h0 f (s ++ [(i, e)]) lo md (by omega) (by omega) (by omega) h4 (fun k h hk => by
          by_cases hkm : k = md
          · subst hkm; rw [he]; exact hb
          · have := hmono md k hm h (by omega)
            rw [he] at this
            omega)
        refine ⟨p, (i, e) :: t, ?_, e2, e3, e4, fun q hq => ?_, fun _ => by rw [List.length_cons]; omega⟩
        · rw [ho]
          show place (byKeys l) run i f (s ++ [(i, e)]) lo md = _
          rw [e1, List.append_assoc]
          rfl
        · rcases List.mem_cons.1 hq with rfl | hq
          · exact hok
          · exact e5 q hq
      · have ho : byKeys l s.length i e = some false := by unfold byKeys; rw [decide_eq_false hb]
        obtain ⟨p, t, e1, e2, e3, e4, e5, e6⟩ := place_does hs hr (by assumption) h0 f (s ++ [(i, e)]) (md + 1) hi (by omega) (by omega) (by omega) (fun k h hk => by
          by_cases hkm : k = md
          · subst hkm; rw [he]; exact hb
          · have := hmono k md h hm (by omega)
            rw [he] at this
            omega) h5
        refine ⟨p, (i, e) :: t, ?_, e2, e3, e4, fun q hq => ?_, fun _ => by rw [List.length_cons]; omega⟩
        · rw [ho]
          show place (byKeys l) run i f (s ++ [(i, e)]) (md + 1) hi = _
          rw [e1, List.append_assoc]
          rfl
        · rcases List.mem_cons.1 hq with rfl | hq
          · exact hok
          · exact e5 q hq
    · rw [if_neg hc]
      exact ⟨lo, [], by rw [List.append_nil], by omega, h4, fun k h hk => h5 k h (by omega), fun p hp => (by cases hp), fun h => by omega⟩

theorem put_sorted {run : List Int} {i : Int} {p : Nat} (hs : run.Pairwise (Lt l)) (hr : ∀ e ∈ run, e < i) (h1 : ∀ k, (h : k < run.length) → k < p → ¬ ky l i < ky l run[k]) (h2 : ∀ k, (h : k < run.length) → p ≤ k → ky l i < ky l run[k]) :
    (run.take p ++ i :: run.drop p).Pairwise (Lt l) := by
  have hs2 := hs
  rw [← List.take_append_drop p run] at hs2
  obtain ⟨ha, hb, hab⟩ := List.pairwise_append.1 hs2
  refine List.pairwise_append.2 ⟨ha, List.pairwise_cons.2 ⟨fun y hy => ?_, hb⟩, fun x hx y hy => ?_⟩
  · obtain ⟨k, hk, rfl⟩ := List.getElem_of_mem hy
    rw [List.length_drop] at hk
    rw [List.getElem_drop]
    exact .inl (h2 (p + k) (by omega) (by omega))
  · have hxi : Lt l x i := by
      have hxr := hr x (List.mem_of_mem_take hx)
      obtain ⟨k, hk, rfl⟩ := List.getElem_of_mem hx
      rw [List.length_take] at hk
      rw [List.getElem_take] at hxr ⊢
      have := h1 k (by omega) (by omega)
      unfold Lt
      omega
    rcases List.mem_cons.1 hy with rfl | hy
    · exact hxi
    · exact hab x hx y hy

theorem fill_does {a : Int} (ha : 0 ≤ a) : ∀ (f : Nat) (s : Asked) (run : List Int) (i : Int), run.Pairwise (Lt l) → (∀ e ∈ run, a ≤ e ∧ e < i) → 1 ≤ run.length → 0 ≤ i → i ≤ n →
    ∃ r j t, fill (byKeys l) n f s run i = (s ++ t, some (r, j)) ∧ i ≤ j ∧ j ≤ n ∧ r.Pairwise (Lt l) ∧ (∀ e ∈ r, a ≤ e ∧ e < j) ∧ (r.length : Int) = run.length + (j - i) ∧ (∀ p ∈ t, Okp n p) ∧ j - i ≤ (t.length : Int)
  | 0, s, run, i, h1, h2, h3, h4, h5 => ⟨run, i, [], by rw [fill, List.append_nil], by omega, h5, h1, h2, by omega, fun p hp => (by cases hp), by simp⟩
  | f + 1, s, run, i, h1, h2, h3, h4, h5 => by
    rw [fill]
    by_cases hc : i < n ∧ run.length < 6
    · rw [if_pos hc]
      obtain ⟨p, t1, e1, e2, e3, e4, e5, e6⟩ := place_does (n := n) h1 (fun e he => ⟨by have := h2 e he; omega, (h2 e he).2⟩) hc.1 h4 10 s 0 run.length (by omega) (by omega) (by omega) (fun k h hk => by omega) (fun k h hk => by omega)
      obtain ⟨r, j, t2, d1, d2, d3, d4, d5, d6, d7, d8⟩ := fill_does ha f (s ++ t1) (run.take p ++ i :: run.drop p) (i + 1) (put_sorted h1 (fun e he => (h2 e he).2) e3 e4) (fun e he => by
        rcases List.mem_append.1 he with he | he
        · have := h2 e (List.mem_of_mem_take he)
          omega
        · rcases List.mem_cons.1 he with rfl | he
          · have hx : ∃ e, e ∈ run := ⟨run[0], List.getElem_mem (by omega)⟩
            obtain ⟨x, hx⟩ := hx
            have := h2 x hx
            omega
          · have := h2 e (List.mem_of_mem_drop he)
            omega) (by rw [List.length_append, List.length_cons]; omega) (by omega) (by omega)
      refine ⟨r, j, t1 ++ t2, ?_, by omega, d3, d4, d5, ?_, fun q hq => ?_, ?_⟩
      · rw [e1]
        show fill (byKeys l) n f (s ++ t1) (run.take p ++ i :: run.drop p) (i + 1) = _
        rw [d1, List.append_assoc]
      · rw [d6, List.length_append, List.length_cons, List.length_take, List.length_drop]
        omega
      · rcases List.mem_append.1 hq with hq | hq
        · exact e5 q hq
        · exact d7 q hq
      · have := e6 (by omega)
        rw [List.length_append]
        omega
    · rw [if_neg hc]
      exact ⟨run, i, [], by rw [List.append_nil], by omega, h5, h1, h2, by omega, fun p hp => (by cases hp), by simp⟩

theorem run1_does (s : Asked) (i : Int) (h0 : 0 ≤ i) (hi : i < n) : ∃ r j t, run1 (byKeys l) n s i = (s ++ t, some (r, j)) ∧ i < j ∧ j ≤ n ∧ r.Pairwise (Lt l) ∧ (∀ e ∈ r, i ≤ e ∧ e < j) ∧ (r.length : Int) = j - i ∧ (∀ p ∈ t, Okp n p) ∧ r.length ≤ t.length + 1 := by
  unfold run1
  by_cases hc : i + 1 < n
  · rw [if_pos hc]
    obtain ⟨down, hd⟩ : ∃ d, decide (ky l (i + 1) < ky l i) = d := ⟨_, rfl⟩
    have ho : byKeys l s.length (i + 1) i = some down := by unfold byKeys; rw [hd]
    obtain ⟨j, t1, e1, e2, e3, e4, e5, e6⟩ := ascend_does (l := l) (n := n) down n.toNat (s ++ [(i + 1, i)]) (i + 2) (by omega) (by omega)
    have hk : ((j - i).toNat : Int) = j - i := by omega
    have hst : (if down = true then (span i (j - i).toNat).reverse else span i (j - i).toNat).Pairwise (Lt l) := by
      have hall : ∀ m, i < m → m < i + ((j - i).toNat : Int) → decide (ky l m < ky l (m - 1)) = down := fun m h1 h2 => by
        by_cases hm : m = i + 1
        · rw [hm, show i + 1 - 1 = i by omega]; exact hd
        · exact e5 m (by omega) (by omega)
      cases down with
      | true =>
        rw [if_pos rfl]
        refine List.pairwise_reverse.2 (span_down _ (fun m h1 h2 => ?_))
        exact of_decide_eq_true (hall m h1 h2)
      | false =>
        rw [if_neg (by simp)]
        refine span_up _ (fun m h1 h2 => ?_)
        have := of_decide_eq_false (hall m h1 h2)
        omega
    have hmm : ∀ e ∈ (if down = true then (span i (j - i).toNat).reverse else span i (j - i).toNat), i ≤ e ∧ e < j := fun e he => by
      have h1 : e ∈ span i (j - i).toNat := by
        cases down with
        | true => rw [if_pos rfl] at he; exact List.mem_reverse.1 he
        | false => rw [if_neg (by simp)] at he; exact he
      have := mem_span h1
      omega
    have hln : (if down = true then (span i (j - i).toNat).reverse else span i (j - i).toNat).length = (j - i).toNat := by
      cases down with
      | true => rw [if_pos rfl, List.length_reverse, span_len]
      | false => rw [if_neg (by simp), span_len]
    obtain ⟨L, hL⟩ : ∃ L, (if down = true then (span i (j - i).toNat).reverse else span i (j - i).toNat) = L := ⟨_, rfl⟩
    rw [hL] at hst hmm hln
    obtain ⟨r, j2, t2, d1, d2, d3, d4, d5, d6, d7, d8⟩ := fill_does (l := l) (n := n) h0 6 (s ++ [(i + 1, i)] ++ t1) L j hst hmm (by omega) (by omega) e3
    refine ⟨r, j2, (i + 1, i) :: (t1 ++ t2), ?_, by omega, d3, d4, d5, by omega, fun q hq => ?_, by rw [List.length_cons, List.length_append]; omega⟩
    · rw [ho]
      show (match ascend (byKeys l) n down n.toNat (s ++ [(i + 1, i)]) (i + 2) with
      | (s', none) => (s', none)
      | (s', some j) => fill (byKeys l) n 6 s' (if down = true then (span i (j - i).toNat).reverse else span i (j - i).toNat) j) = _
      rw [e1]
      show fill (byKeys l) n 6 (s ++ [(i + 1, i)] ++ t1) (if down = true then (span i (j - i).toNat).reverse else span i (j - i).toNat) j = _
      rw [hL, d1]
      simp [List.append_assoc]
    · rcases List.mem_cons.1 hq with rfl | hq
      · exact ⟨by show 0 ≤ i + 1; omega, hc, h0, hi, by show i + 1 ≠ i; omega⟩
      · rcases List.mem_append.1 hq with hq | hq
        · exact e4 q hq
        · exact d7 q hq
  · rw [if_neg hc]
    exact ⟨[i], i + 1, [], by rw [List.append_nil], by omega, by omega, List.pairwise_singleton _ _, fun e he => by rw [List.mem_singleton.1 he]; omega, by simp; omega, fun p hp => (by cases hp), by simp⟩

/-- Runs in order: ascending each, and each one's things come before the next ones'. -/
def GoodR (l : List Int) (n : Int) (a : Int) (R : List (List Int)) : Prop := (∀ r ∈ R, r.Pairwise (Lt l) ∧ 1 ≤ r.length ∧ ∀ e ∈ r, a ≤ e ∧ e < n) ∧ R.Pairwise (fun A B => ∀ x ∈ A, ∀ y ∈ B, x < y)

theorem runs_does : ∀ (f : Nat) (s : Asked) (i : Int) (R : List (List Int)), 0 ≤ i → i ≤ n → n - i ≤ (f : Int) → ∃ R' t, runs (byKeys l) n f s i R = (s ++ t, some (R ++ R')) ∧ GoodR l n i R' ∧ (R'.flatten.length : Int) = n - i ∧ (∀ p ∈ t, Okp n p) ∧ R'.flatten.length ≤ t.length + R'.length
  | 0, s, i, R, h0, hi, hf => ⟨[], [], by rw [runs, List.append_nil, List.append_nil], ⟨fun r hr => (by cases hr), List.Pairwise.nil⟩, by simp; omega, fun p hp => (by cases hp), by simp⟩
  | f + 1, s, i, R, h0, hi, hf => by
    rw [runs]
    by_cases hc : i < n
    · rw [if_pos hc]
      obtain ⟨r, j, t1, e1, e2, e3, e4, e5, e6, e7, e8⟩ := run1_does (l := l) s i h0 hc
      obtain ⟨R', t2, d1, d2, d3, d4, d5⟩ := runs_does f (s ++ t1) j (R ++ [r]) (by omega) e3 (by omega)
      refine ⟨r :: R', t1 ++ t2, ?_, ⟨fun q hq => ?_, List.pairwise_cons.2 ⟨fun B hB x hx y hy => ?_, d2.2⟩⟩, ?_, fun q hq => ?_, ?_⟩
      · rw [e1]
        show runs (byKeys l) n f (s ++ t1) j (R ++ [r]) = _
        rw [d1]
        simp [List.append_assoc]
      · rcases List.mem_cons.1 hq with rfl | hq
        · exact ⟨e4, by omega, fun e he => by have := e5 e he; omega⟩
        · obtain ⟨q1, q2, q3⟩ := d2.1 q hq
          exact ⟨q1, q2, fun e he => by have := q3 e he; omega⟩
      · have := e5 x hx
        have := (d2.1 B hB).2.2 y hy
        omega
      · rw [List.flatten_cons, List.length_append]
        omega
      · rcases List.mem_append.1 hq with hq | hq
        · exact e7 q hq
        · exact d4 q hq
      · rw [List.flatten_cons, List.length_append, List.length_append, List.length_cons]
        omega
    · rw [if_neg hc]
      exact ⟨[], [], by rw [List.append_nil, List.append_nil], ⟨fun r hr => (by cases hr), List.Pairwise.nil⟩, by simp; omega, fun p hp => (by cases hp), by simp⟩

theorem merge_does : ∀ (f : Nat) (s : Asked) (a b out : List Int), a.length + b.length ≤ f → a.Pairwise (Lt l) → b.Pairwise (Lt l) → (∀ x ∈ a, ∀ y ∈ b, x < y) → (∀ x ∈ a, 0 ≤ x ∧ x < n) → (∀ x ∈ b, 0 ≤ x ∧ x < n) →
    ∃ Z t, merge (byKeys l) f s a b out = (s ++ t, some (out ++ Z)) ∧ Z.Pairwise (Lt l) ∧ (∀ z ∈ Z, z ∈ a ∨ z ∈ b) ∧ Z.length = a.length + b.length ∧ (∀ p ∈ t, Okp n p) ∧ (1 ≤ a.length → 1 ≤ b.length → 1 ≤ t.length)
  | 0, s, a, b, out, hf, h1, h2, h3, h4, h5 => by
    obtain rfl : a = [] := List.length_eq_zero_iff.1 (by omega)
    obtain rfl : b = [] := List.length_eq_zero_iff.1 (by rw [List.length_nil] at hf; omega)
    exact ⟨[], [], by simp [merge], List.Pairwise.nil, fun z hz => (by cases hz), rfl, fun p hp => (by cases hp), fun h => by simp at h⟩
  | f + 1, s, [], b, out, hf, h1, h2, h3, h4, h5 => ⟨b, [], by rw [merge, List.append_nil], h2, fun z hz => .inr hz, by simp, fun p hp => (by cases hp), fun h => by simp at h⟩
  | f + 1, s, x :: a, [], out, hf, h1, h2, h3, h4, h5 => ⟨x :: a, [], by rw [merge, List.append_nil]; simp, h1, fun z hz => .inl hz, by simp, fun p hp => (by cases hp), fun _ h => by simp at h⟩
  | f + 1, s, x :: a, y :: b, out, hf, h1, h2, h3, h4, h5 => by
    have hxy := h3 x List.mem_cons_self y List.mem_cons_self
    have hx := h4 x List.mem_cons_self
    have hy := h5 y List.mem_cons_self
    have hok : Okp n (y, x) := ⟨hy.1, hy.2, hx.1, hx.2, by show y ≠ x; omega⟩
    obtain ⟨ha1, ha2⟩ := List.pairwise_cons.1 h1
    obtain ⟨hb1, hb2⟩ := List.pairwise_cons.1 h2
    rw [merge]
    rw [List.length_cons, List.length_cons] at hf
    by_cases hb : ky l y < ky l x
    · have ho : byKeys l s.length y x = some true := by unfold byKeys; rw [decide_eq_true hb]
      obtain ⟨Z, t, e1, e2, e3, e4, e5, e6⟩ := merge_does f (s ++ [(y, x)]) (x :: a) b (out ++ [y]) (by rw [List.length_cons]; omega) h1 hb2 (fun p hp q hq => h3 p hp q (List.mem_cons_of_mem _ hq)) h4 (fun q hq => h5 q (List.mem_cons_of_mem _ hq))
      refine ⟨y :: Z, (y, x) :: t, ?_, List.pairwise_cons.2 ⟨fun z hz => ?_, e2⟩, fun z hz => ?_, ?_, fun q hq => ?_, fun _ _ => by rw [List.length_cons]; omega⟩
      · rw [ho]
        show merge (byKeys l) f (s ++ [(y, x)]) (x :: a) b (out ++ [y]) = _
        rw [e1]
        simp [List.append_assoc]
      · rcases e3 z hz with h | h
        · have hyx : Lt l y x := .inl hb
          rcases List.mem_cons.1 h with rfl | h
          · exact hyx
          · exact hyx.trans (ha1 z h)
        · exact hb1 z h
      · rcases List.mem_cons.1 hz with rfl | hz
        · exact .inr List.mem_cons_self
        · rcases e3 z hz with h | h
          · exact .inl h
          · exact .inr (List.mem_cons_of_mem _ h)
      · rw [List.length_cons, e4, List.length_cons, List.length_cons]
        omega
      · rcases List.mem_cons.1 hq with rfl | hq
        · exact hok
        · exact e5 q hq
    · have ho : byKeys l s.length y x = some false := by unfold byKeys; rw [decide_eq_false hb]
      obtain ⟨Z, t, e1, e2, e3, e4, e5, e6⟩ := merge_does f (s ++ [(y, x)]) a (y :: b) (out ++ [x]) (by rw [List.length_cons]; omega) ha2 h2 (fun p hp q hq => h3 p (List.mem_cons_of_mem _ hp) q hq) (fun q hq => h4 q (List.mem_cons_of_mem _ hq)) h5
      have hlt : Lt l x y := by
        unfold Lt
        omega
      refine ⟨x :: Z, (y, x) :: t, ?_, List.pairwise_cons.2 ⟨fun z hz => ?_, e2⟩, fun z hz => ?_, ?_, fun q hq => ?_, fun _ _ => by rw [List.length_cons]; omega⟩
      · rw [ho]
        show merge (byKeys l) f (s ++ [(y, x)]) a (y :: b) (out ++ [x]) = _
        rw [e1]
        simp [List.append_assoc]
      · rcases e3 z hz with h | h
        · exact ha1 z h
        · rcases List.mem_cons.1 h with rfl | h
          · exact hlt
          · exact hlt.trans (hb1 z h)
      · rcases List.mem_cons.1 hz with rfl | hz
        · exact .inl List.mem_cons_self
        · rcases e3 z hz with h | h
          · exact .inl (List.mem_cons_of_mem _ h)
          · exact .inr h
      · rw [List.length_cons, e4, List.length_cons, List.length_cons]
        omega
      · rcases List.mem_cons.1 hq with rfl | hq
        · exact hok
        · exact e5 q hq

theorem pass_does : ∀ (f : Nat) (s : Asked) (R N : List (List Int)), R.length ≤ f → GoodR l n 0 R → ∃ N' t, pass (byKeys l) s R N = (s ++ t, some (N ++ N')) ∧ GoodR l n 0 N' ∧ (∀ A ∈ N', ∀ z ∈ A, ∃ B ∈ R, z ∈ B) ∧ N'.flatten.length = R.flatten.length ∧ (∀ p ∈ t, Okp n p) ∧ R.length ≤ t.length + N'.length ∧
    2 * N'.length ≤ R.length + 1 ∧ (1 ≤ R.length → 1 ≤ N'.length)
  | _, s, [], N, hf, h => ⟨[], [], by rw [pass, List.append_nil, List.append_nil], h, fun A hA => (by cases hA), rfl, fun p hp => (by cases hp), by simp, by simp, fun h => h⟩
  | _, s, [a], N, hf, h => ⟨[a], [], by rw [pass, List.append_nil], h, fun A hA z hz => ⟨A, hA, hz⟩, rfl, fun p hp => (by cases hp), by simp, by simp, fun h => h⟩
  | 0, s, a :: b :: R, N, hf, h => by simp at hf
  | f + 1, s, a :: b :: R, N, hf, h => by
    obtain ⟨ha1, ha2, ha3⟩ := h.1 a List.mem_cons_self
    obtain ⟨hb1, hb2, hb3⟩ := h.1 b (List.mem_cons_of_mem _ List.mem_cons_self)
    obtain ⟨p1, p2⟩ := List.pairwise_cons.1 h.2
    obtain ⟨p3, p4⟩ := List.pairwise_cons.1 p2
    obtain ⟨Z, t1, e1, e2, e3, e4, e5, e6⟩ := merge_does (l := l) (n := n) (a.length + b.length) s a b [] (Nat.le_refl _) ha1 hb1 (p1 b List.mem_cons_self) ha3 hb3
    obtain ⟨N', t2, d1, d2, d3, d4, d5, d6, d7, d8⟩ := pass_does f (s ++ t1) R (N ++ [Z]) (by simp at hf; omega) ⟨fun r hr => h.1 r (List.mem_cons_of_mem _ (List.mem_cons_of_mem _ hr)), p4⟩
    refine ⟨Z :: N', t1 ++ t2, ?_, ⟨fun r hr => ?_, List.pairwise_cons.2 ⟨fun B hB x hx y hy => ?_, d2.2⟩⟩, fun A hA z hz => ?_, ?_, fun q hq => ?_, ?_, by simp; omega, fun _ => by simp⟩
    · rw [pass, e1]
      show pass (byKeys l) (s ++ t1) R (N ++ [[] ++ Z]) = _
      rw [List.nil_append, d1]
      simp [List.append_assoc]
    · rcases List.mem_cons.1 hr with rfl | hr
      · exact ⟨e2, by omega, fun e he => (e3 e he).elim (ha3 e) (hb3 e)⟩
      · exact d2.1 r hr
    · obtain ⟨C, hC, hyC⟩ := d3 B hB y hy
      rcases e3 x hx with hx | hx
      · exact p1 C (List.mem_cons_of_mem _ hC) x hx y hyC
      · exact p3 C hC x hx y hyC
    · rcases List.mem_cons.1 hA with rfl | hA
      · rcases e3 z hz with hz | hz
        · exact ⟨a, List.mem_cons_self, hz⟩
        · exact ⟨b, List.mem_cons_of_mem _ List.mem_cons_self, hz⟩
      · obtain ⟨B, hB, hzB⟩ := d3 A hA z hz
        exact ⟨B, List.mem_cons_of_mem _ (List.mem_cons_of_mem _ hB), hzB⟩
    · simp only [List.flatten_cons, List.length_append]
      omega
    · rcases List.mem_append.1 hq with hq | hq
      · exact e5 q hq
      · exact d5 q hq
    · have := e6 ha2 hb2
      simp only [List.length_cons, List.length_append]
      omega

theorem passes_does : ∀ (f : Nat) (s : Asked) (R : List (List Int)), R.length ≤ f + 1 → GoodR l n 0 R → ∃ R' t, passes (byKeys l) f s R = (s ++ t, some R') ∧ GoodR l n 0 R' ∧ R'.length ≤ 1 ∧ R'.flatten.length = R.flatten.length ∧ (∀ p ∈ t, Okp n p) ∧ R.length ≤ t.length + R'.length
  | 0, s, R, hf, h => ⟨R, [], by rw [passes, List.append_nil], h, by omega, rfl, fun p hp => (by cases hp), by simp⟩
  | f + 1, s, R, hf, h => by
    rw [passes]
    by_cases hc : 1 < R.length
    · rw [if_pos hc]
      obtain ⟨N', t1, e1, e2, e3, e4, e5, e6, e7, e8⟩ := pass_does (l := l) (n := n) R.length s R [] (Nat.le_refl _) h
      obtain ⟨R', t2, d1, d2, d3, d4, d5, d6⟩ := passes_does f (s ++ t1) N' (by omega) e2
      refine ⟨R', t1 ++ t2, ?_, d2, d3, by omega, fun q hq => ?_, by rw [List.length_append]; omega⟩
      · rw [e1]
        show passes (byKeys l) f (s ++ t1) ([] ++ N') = _
        rw [List.nil_append, d1, List.append_assoc]
      · rcases List.mem_append.1 hq with hq | hq
        · exact e5 q hq
        · exact d5 q hq
    · rw [if_neg hc]
      exact ⟨R, [], by rw [List.append_nil], h, by omega, rfl, fun p hp => (by cases hp), by simp⟩

theorem sort_does (N : Nat) : ∃ L t, sort (byKeys l) (N : Int) = (t, some L) ∧ L.Pairwise (Lt l) ∧ (∀ x ∈ L, 0 ≤ x ∧ x < (N : Int)) ∧ L.length = N ∧ (∀ p ∈ t, Okp (N : Int) p) ∧ N ≤ t.length + 1 := by
  obtain ⟨R, t1, e1, e2, e3, e4, e5⟩ := runs_does (l := l) (n := (N : Int)) N [] 0 [] (by omega) (by omega) (by omega)
  obtain ⟨R', t2, d1, d2, d3, d4, d5, d6⟩ := passes_does (l := l) (n := (N : Int)) R.length ([] ++ t1) R (by omega) e2
  have hs : sort (byKeys l) (N : Int) = (t1 ++ t2, some (R'.getD 0 [])) := by
    unfold sort
    rw [Int.toNat_natCast, e1]
    simp only [List.nil_append]
    rw [List.nil_append] at d1
    rw [d1]
  match R', d2, d3, d4, d6, hs with
  | [], d2, d3, d4, d6, hs =>
    have hN : N = 0 := by
      have : R.flatten.length = 0 := by rw [← d4]; rfl
      omega
    subst hN
    refine ⟨[], t1 ++ t2, hs, List.Pairwise.nil, fun x hx => (by cases hx), rfl, fun q hq => ?_, by omega⟩
    rcases List.mem_append.1 hq with hq | hq
    · exact e4 q hq
    · exact d5 q hq
  | [L], d2, d3, d4, d6, hs =>
    obtain ⟨q1, q2, q3⟩ := d2.1 L (List.mem_singleton.2 rfl)
    have hl : L.length = N := by
      have : [L].flatten.length = L.length := by simp
      omega
    refine ⟨L, t1 ++ t2, hs, q1, q3, hl, fun q hq => ?_, by rw [List.length_append]; simp at d6; omega⟩
    rcases List.mem_append.1 hq with hq | hq
    · exact e4 q hq
    · exact d5 q hq
end

end Go.Proofs.Ytdibbgldclgokaa.SortM
