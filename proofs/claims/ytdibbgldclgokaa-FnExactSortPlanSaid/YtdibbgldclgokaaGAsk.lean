/- A function that is asked, whatever it is: what a sort may rely on; and the rows of the sort's own beside it. No condition beyond those of the theorems. -/
import Derived.Test.YtdibbgldclgokaaPSx0
import Derived.Test.YtdibbgldclgokaaSortM
import Derived.Deep.CutBlock
import Derived.Deep.DeepCutAuto
import Derived.Lib.Hide
import Derived.BigQuiet
namespace Go.Proofs.Ytdibbgldclgokaa.PS
open Go.RowKit Go.Proofs.YtdibbgldclgokaaW.PrintWords Go.Proofs.YtdibbgldclgokaaW.PrintLast Go.Proofs.YtdibbgldclgokaaW.PrintMore Go.Proofs.Ytdibbgldclgokaa.SortM
set_option linter.unusedVariables false
set_option linter.unusedSimpArgs false

/-- From w to w' only blocks of C have turned, and new ones; C' has none but those of C and new ones. -/
structure Moved (C C' : Nat → Prop) (w w' : World) : Prop where
  os : w'.os = w.os
  tape : w'.tape = w.tape
  output : w'.output = w.output
  size : w.heap.size ≤ w'.heap.size
  block : ∀ k, k < w.heap.size → ¬ C k → w'.heap[k]? = w.heap[k]?
  new : ∀ k, C' k → C k ∨ w.heap.size ≤ k

theorem Moved.refl (C : Nat → Prop) (w : World) : Moved C C w w := ⟨rfl, rfl, rfl, Nat.le_refl _, fun _ _ _ => rfl, fun _ h => .inl h⟩
theorem Moved.trans {C C1 C2 : Nat → Prop} {w w1 w2 : World} (h : Moved C C1 w w1) (k : Moved C1 C2 w1 w2) : Moved C C2 w w2 :=
  ⟨k.os.trans h.os, k.tape.trans h.tape, k.output.trans h.output, Nat.le_trans h.size k.size, fun j hj hn => (k.block j (Nat.lt_of_lt_of_le hj h.size) (fun hc => by
    rcases h.new j hc with h1 | h1
    · exact hn h1
    · omega)).trans (h.block j hj hn), fun j hc => by
    rcases k.new j hc with h1 | h1
    · exact h.new j h1
    · exact .inr (Nat.le_trans h.size h1)⟩

/-- What a sort may rely on in the function K that it asks: with I it answers as O says, and turns only blocks of its own. -/
structure Asker (O : Oracle) (K : FuncId) (caps : Array Value) (n : Int) (b0 : Nat) (I : Asked → (Nat → Prop) → World → Prop) : Prop where
  enter : ∀ args w, (callFunc K args).run Try.prog w = .ok (.enter K args) w
  ask : ∀ s C w (a b : Int), I s C w → 0 ≤ a → a < n → 0 ≤ b → b < n → s.length ≤ 10000000 → Calls Try.prog K (#[.int .i64 a, .int .i64 b] ++ caps) w fun e w' =>
    e = .returned (.tuple #[.bool ((O s.length a b).getD false), .bool (O s.length a b).isSome]) ∧ ∃ C', I (s ++ [(a, b)]) C' w' ∧ Moved C C' w w'
  lt : ∀ s C w, I s C w → ∀ k, C k → k < w.heap.size
  keep : ∀ s C w w', I s C w → (∀ k, C k ∨ k < b0 → w'.heap[k]? = w.heap[k]?) → w.heap.size ≤ w'.heap.size → I s C w'

/-- The state of a sort that began in w0: what has been asked, whose blocks are the function's, and that all else of w0 is as it was. -/
structure St (I : Asked → (Nat → Prop) → World → Prop) (C0 : Nat → Prop) (w0 : World) (s : Asked) (C : Nat → Prop) (w : World) : Prop where
  inv : I s C w
  mv : Moved C0 C w0 w
  lt : ∀ k, C k → k < w.heap.size

section
variable {O : Oracle} {K : FuncId} {caps : Array Value} {n : Int} {I : Asked → (Nat → Prop) → World → Prop} {C0 C C' : Nat → Prop} {w0 w w' : World} {s s' : Asked}

theorem St.asked (hA : Asker O K caps n w0.heap.size I) (h : St I C0 w0 s C w) (hI : I s' C' w') (hm : Moved C C' w w') : St I C0 w0 s' C' w' :=
  ⟨hI, h.mv.trans hm, hA.lt _ _ _ hI⟩
/-- A step of the sort's own: it writes blocks of the sort's own, or makes new ones. -/
theorem St.own (hA : Asker O K caps n w0.heap.size I) (h : St I C0 w0 s C w) (hos : w'.os = w.os) (ht : w'.tape = w.tape) (ho : w'.output = w.output) (hs : w.heap.size ≤ w'.heap.size)
    (hb : ∀ k, k < w.heap.size → C k ∨ k < w0.heap.size → w'.heap[k]? = w.heap[k]?) : St I C0 w0 s C w' := by
  refine ⟨hA.keep _ _ _ _ h.inv (fun k hk => ?_) hs, ⟨hos.trans h.mv.os, ht.trans h.mv.tape, ho.trans h.mv.output, Nat.le_trans h.mv.size hs, fun k hk hn => ?_, h.mv.new⟩, fun k hk => Nat.lt_of_lt_of_le (h.lt k hk) hs⟩
  · rcases hk with hk | hk
    · exact hb k (h.lt k hk) (.inl hk)
    · exact hb k (Nat.lt_of_lt_of_le hk h.mv.size) (.inr hk)
  · exact (hb k (Nat.lt_of_lt_of_le hk h.mv.size) (.inr hk)).trans (h.mv.block k hk hn)
theorem St.alloc (hA : Asker O K caps n w0.heap.size I) (h : St I C0 w0 s C w) (o : Obj) : St I C0 w0 s C (w.alloc o) :=
  h.own hA rfl rfl rfl (by simp) (fun k hk _ => Below.heap_alloc w o k hk)
theorem St.drewN (hA : Asker O K caps n w0.heap.size I) (h : St I C0 w0 s C w) (m : Nat) : St I C0 w0 s C (w.drewN m) :=
  h.own hA rfl rfl rfl (Nat.le_refl _) (fun _ _ _ => rfl)
theorem St.grown (hA : Asker O K caps n w0.heap.size I) (h : St I C0 w0 s C w) {row : Option Nat} (hg : w.grownBy w' row) (hr : ∀ k, row = some k → ¬ C k ∧ w0.heap.size ≤ k) : St I C0 w0 s C w' :=
  h.own hA hg.os hg.tape hg.output hg.size (fun k hk hc => hg.block k hk (fun e => by
    have := hr k e.symm
    rcases hc with hc | hc
    · exact this.1 hc
    · omega))
theorem St.new (h : St I C0 w0 s C w) {k : Nat} (hk : w.heap.size ≤ k) : ¬ C k := fun hc => by have := h.lt k hc; omega

/-- A row of the sort's own behind what the function has done. -/
theorem row_moved {α : Type} {d : Kd α} {e base : Nat} {v : Value} {xs : List α} {P : Nat → Prop} (h : d.R e w base (fun k => ¬ C k ∧ P k) v xs) (hm : Moved C C' w w') : d.R e w' base (fun k => ¬ C' k ∧ P k) v xs := by
  have h1 := Kd.R_step (Kd.R_bound h) (w1 := w') (fun k hk hlt => hm.block k hlt hk.1.1)
  refine Kd.R_mono h1 (fun k hk => ⟨fun hc => ?_, hk.1.2⟩)
  rcases hm.new k hc with h2 | h2
  · exact hk.1.1 h2
  · have := hk.2.2.1
    omega
end

end Go.Proofs.Ytdibbgldclgokaa.PS
