/- Openers: an argument that reads as data of a type is a value of a kind of the print's (whole numbers, bools, strings, slices and structs of these), with its bounds. No condition. -/
import Derived.Test.YtdibbgldclgokaaWWords
import Derived.Deep.Slices
import Derived.ProofKit
import Derived.SizedLaws
set_option linter.unusedVariables false
set_option linter.unusedSimpArgs false
namespace Go.Proofs.Ytdibbgldclgokaa.Open
open Go.RowKit Go.Deep Go.Proofs.YtdibbgldclgokaaW.PrintWords

/-- What reads as data of type t is of kind d, and good. -/
def Opens (P : Program) (t : TypeId) {α : Type} (d : Kd α) (good : α → Prop) : Prop :=
  P.cellsOf t = d.sz ∧ ∀ {H : Type} (enc : TypeId × Value → H) (w : World) (sp : Nat → Bool) (held : Bool) (fuel : Nat) (cs : List Value) (x : DataW H × List MemPlace),
    DataW.trod enc P w 0 sp held fuel t cs = some x → (∀ n ∈ DataW.weights P t x.1, n ≤ reachBytes) → ∃ a : α, d.K w a cs ∧ good a

/-- The fields from one place on. -/
def OpensF (P : Program) (fs : List Field) (off : Nat) {α : Type} (d : Kd α) (good : α → Prop) : Prop :=
  ∀ {H : Type} (enc : TypeId × Value → H) (w : World) (sp : Nat → Bool) (held : Bool) (fuel : Nat) (cs : List Value) (xs : List (DataW H × List MemPlace)),
    xs.length = fs.length → (∀ (i : Nat) (f : Field), fs[i]? = some f → DataW.trod enc P w 0 sp held fuel f.type ((cs.drop f.offset).take (P.cellsOf f.type)) = xs[i]?) →
    cs.length = off + d.sz → (∀ n ∈ DataW.weightsEach P (fs.map (·.type)) (xs.map (·.1)), n ≤ reachBytes) → ∃ a : α, d.K w a (cs.drop off) ∧ good a

theorem opens_int {P : Program} {t : TypeId} {k : IntKind} (hu : P.underlying t = some (.int k)) (hc : P.cellsOf t = 1) : Opens P t (Kd.int k) (fun n => (Lit.int k n).wf = true) := by
  refine ⟨hc, fun enc w sp held fuel cs x h hw => ?_⟩
  obtain ⟨n, rfl, rfl, hwf⟩ := DataW.trod_int hu h
  exact ⟨n, rfl, hwf⟩

theorem opens_bool {P : Program} {t : TypeId} (hu : P.underlying t = some .bool) (hc : P.cellsOf t = 1) : Opens P t Kd.bool (fun _ => True) := by
  refine ⟨hc, fun enc w sp held fuel cs x h hw => ?_⟩
  obtain ⟨n, rfl, rfl⟩ := DataW.trod_bool hu h
  exact ⟨n, rfl, trivial⟩

theorem opens_string {P : Program} {t : TypeId} (hu : P.underlying t = some .string) (hc : P.cellsOf t = 1) : Opens P t Kd.string (fun s => s.size ≤ 140737488351232) := by
  refine ⟨hc, fun enc w sp held fuel cs x h hw => ?_⟩
  obtain ⟨s, rfl, rfl, hs⟩ := DataW.trod_string hu h
  refine ⟨s, rfl, ?_⟩
  have := hw s.data.toList.length (by simp [DataW.weights])
  rw [Array.length_toList] at this
  exact this

theorem list_of (n : Nat) {α : Type} (p : Nat → α → Prop) (h : ∀ i, i < n → ∃ a, p i a) : ∃ l : List α, l.length = n ∧ ∀ i a, l[i]? = some a → p i a := by
  induction n with
  | zero => exact ⟨[], rfl, fun i a h => by simp at h⟩
  | succ n ih =>
    obtain ⟨l, hl, hp⟩ := ih (fun i hi => h i (by omega))
    obtain ⟨a, ha⟩ := h n (by omega)
    refine ⟨l ++ [a], by simp [hl], fun i b hb => ?_⟩
    rcases Nat.lt_or_ge i l.length with hi | hi
    · rw [List.getElem?_append_left hi] at hb
      exact hp i b hb
    · have hi2 : i = l.length := by
        have := (List.getElem?_eq_some_iff.1 hb).1
        rw [List.length_append, List.length_singleton] at this
        omega
      subst hi2
      have : a = b := by simpa using hb
      subst this
      rw [hl]
      exact ha

theorem cells_at {w : World} {base : Nat} {a : Addr} {n : Nat} {cs : List Value} (h : w.cells? base a n = some cs) : cs.length = n ∧ ∀ i u, cs[i]? = some u → w.cell? (a.add i) = some u := by
  unfold World.cells? at h
  split at h
  · refine ⟨by simpa using mapM_some_length h, fun i u hu => ?_⟩
    have hl := mapM_some_length h
    have hi : i < n := by
      have := (List.getElem?_eq_some_iff.1 hu).1
      rw [hl, List.length_range] at this
      exact this
    have := mapM_some_get h i i (by simp [hi])
    rw [this, hu]
  · simp at h

theorem add_mul_add (a : Addr) (i j : Nat) : (a.add i).add j = a.add (i + j) := by
  unfold Addr.add
  by_cases hi : i = 0
  · subst hi
    simp
  · by_cases hj : j = 0
    · subst hj
      simp
    · simp [hi, hj, Nat.add_assoc]

theorem weightsAll_mem {H : Type} {P : Program} {e : TypeId} {l : List (DataW H)} {i : Nat} {d : DataW H} (h : l[i]? = some d) {n : Nat} (hn : n ∈ DataW.weights P e d) : n ∈ DataW.weightsAll P e l := by
  induction l generalizing i with
  | nil => simp at h
  | cons x r ih =>
    rw [DataW.weightsAll]
    cases i with
    | zero =>
      simp at h
      subst h
      exact List.mem_append_left _ hn
    | succ i => exact List.mem_append_right _ (ih (by simpa using h))

theorem opens_slice {P : Program} {t e : TypeId} {α : Type} {d : Kd α} {g : α → Prop} (hu : P.underlying t = some (.slice e)) (hc : P.cellsOf t = 1) {B : Nat} (hB : P.bytesOf e = B) (he : Opens P e d g) :
    Opens P t (Kd.slice e d) (fun xs => xs.length * B ≤ 140737488351232 ∧ ∀ x ∈ xs, g x) := by
  refine ⟨hc, fun enc w sp held fuel cs x h hw => ?_⟩
  rcases open_slice hu h with ⟨rfl, rfl⟩ | ⟨a, len, cap, m, n, D, Pl, rfl, hb, hl, hm, hmm, rfl, hx⟩
  · exact ⟨[], ⟨none, 0, rfl, Nat.le_refl _, Kd.C_nil _ _⟩, by simp, by simp⟩
  · have hlm : len ≤ m := by rw [hmm]; split <;> omega
    have hel : ∀ i, i < len → ∃ x : α, (∃ c, c.length = d.sz ∧ d.K w x c ∧ ∀ j u, c[j]? = some u → w.cell? (a.add (i * d.sz + j)) = some u) ∧ g x := by
      intro i hi
      obtain ⟨cs', h1, h2⟩ := hx i (by omega)
      obtain ⟨hcl, hcc⟩ := cells_at h1
      obtain ⟨y, hK, hg⟩ := he.2 enc w sp held n cs' _ h2 (fun q hq => hw q (by
        rw [DataW.weights]
        simp only [hu]
        refine List.mem_cons_of_mem _ (List.mem_append_left _ (weightsAll_mem (i := i) ?_ hq))
        simp [hi]))
      refine ⟨y, ⟨cs', by rw [hcl, he.1], hK, fun j u hj => ?_⟩, hg⟩
      have := hcc j u hj
      rw [add_mul_add, he.1] at this
      exact this
    obtain ⟨l, hll, hlp⟩ := list_of len _ hel
    have hw0 := hw ((len + (m - len)) * B) (by
      rw [DataW.weights]
      simp only [hu]
      rw [hB]
      simp)
    refine ⟨l, ⟨some a, cap, by rw [hll], by omega, hll ▸ rfl, ?_, fun hn => ⟨a, rfl, fun j p hj => ?_⟩⟩, ?_, fun x hx => ?_⟩
    · have : maxLen = 9223372036854775807 := rfl
      omega
    · obtain ⟨c, h1, h2, h3⟩ := (hlp j p hj).1
      exact ⟨c, h1, h2, h3⟩
    · rw [hll]
      have : len * B ≤ (len + (m - len)) * B := Nat.mul_le_mul_right _ (by omega)
      exact Nat.le_trans this hw0
    · obtain ⟨i, hi⟩ := List.getElem?_of_mem hx
      exact (hlp i x hi).2

theorem opensF_one {P : Program} {f : Field} {off : Nat} {α : Type} {d : Kd α} {g : α → Prop} (ho : f.offset = off) (h : Opens P f.type d g) : OpensF P [f] off d g := by
  intro H enc w sp held fuel cs xs hl hx hcs hw
  have h0 := hx 0 f rfl
  match xs, hl with
  | [x], _ =>
    have h1 : DataW.trod enc P w 0 sp held fuel f.type ((cs.drop f.offset).take (P.cellsOf f.type)) = some x := h0
    rw [ho, List.take_of_length_le (by rw [List.length_drop, h.1]; omega)] at h1
    exact h.2 enc w sp held fuel _ x h1 (fun n hn => hw n (by simpa [DataW.weightsEach] using hn))

theorem opensF_cons {P : Program} {f : Field} {fs : List Field} {off : Nat} {α β : Type} {d : Kd α} {d' : Kd β} {g : α → Prop} {g' : β → Prop} (ho : f.offset = off) (h : Opens P f.type d g) (hr : OpensF P fs (off + d.sz) d' g') :
    OpensF P (f :: fs) off (Kd.pair d d') (fun x => g x.1 ∧ g' x.2) := by
  intro H enc w sp held fuel cs xs hl hx hcs hw
  have hcs' : cs.length = off + (d.sz + d'.sz) := hcs
  match xs, hl with
  | x :: xs, hl =>
    have h0 := hx 0 f rfl
    have h1 : DataW.trod enc P w 0 sp held fuel f.type ((cs.drop f.offset).take (P.cellsOf f.type)) = some x := h0
    rw [ho] at h1
    obtain ⟨a, hK, hg⟩ := h.2 enc w sp held fuel _ x h1 (fun n hn => hw n (by simp only [List.map_cons, DataW.weightsEach]; exact List.mem_append_left _ hn))
    obtain ⟨b, hK', hg'⟩ := hr enc w sp held fuel cs xs (by simpa using hl) (fun i f' hf => by have := hx (i + 1) f' (by simpa using hf); simpa using this) (by omega) (fun n hn => hw n (by simp only [List.map_cons, DataW.weightsEach]; exact List.mem_append_right _ hn))
    refine ⟨(a, b), ⟨_, _, ?_, hK, hK'⟩, hg, hg'⟩
    rw [h.1, ← List.drop_drop, List.take_append_drop]

theorem opens_struct {P : Program} {t : TypeId} {fs : Array Field} {α β : Type} {d : Kd α} {f : β → α} {b : α → β} {g : α → Prop} (hu : P.underlying t = some (.struct fs)) (hc : P.cellsOf t = d.sz) (hb : ∀ a, f (b a) = a) (h : OpensF P fs.toList 0 d g) :
    Opens P t (Kd.iso d f) (fun x => g (f x)) := by
  refine ⟨hc, fun enc w sp held fuel cs x hx hw => ?_⟩
  obtain ⟨xs, n, rfl, rfl, hl, hxl, hget⟩ := DataW.trod_struct hu hx
  obtain ⟨a, hK, hg⟩ := h enc w sp held n cs xs (by simpa using hxl) (fun i f' hf => hget i f' (by simpa using hf)) (by omega) (fun q hq => hw q (by
    rw [DataW.weights]
    simp only [hu]
    exact hq))
  refine ⟨b a, ?_, ?_⟩
  · show d.K w (f (b a)) cs
    rw [hb]
    exact hK
  · show g (f (b a))
    rw [hb]
    exact hg

/-- At an argument. -/
theorem Opens.arg {P : Program} {t : TypeId} {α : Type} {d : Kd α} {good : α → Prop} (h : Opens P t d good) {H : Type} {enc : TypeId × Value → H} {w : World} {sp : Nat → Bool} {held : Bool} {v : Value} {x : DataW H} {ps : List MemPlace}
    (ht : DataW.Trod enc P w 0 sp held t v x ps) {ts : List TypeId} {ds : List (DataW H)} {j : Nat} (hsz : (DataW.weightsEach P ts ds).all (· ≤ reachBytes) = true) (h1 : ts[j]? = some t) (h2 : ds[j]? = some x) :
    ∃ a : α, d.K w a v.cells.toList ∧ good a := by
  obtain ⟨fuel, hf⟩ := ht
  exact h.2 enc w sp held fuel _ _ hf (fun n hn => by simpa using List.all_eq_true.1 hsz n (DataW.weights_mem_each h1 h2 n hn))

end Go.Proofs.Ytdibbgldclgokaa.Open
