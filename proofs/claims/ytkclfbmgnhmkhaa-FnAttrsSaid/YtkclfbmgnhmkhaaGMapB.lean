/- Maps of which all elements are true, keyed by whole numbers or by texts: what a look-up in one and a store into one do, over any program. No condition beyond those of the theorems. -/
import Derived.Test.YtkclfbmgnhmkhaaProg
import Derived.Maps.Own
import Derived.WalkKit
import Derived.Below
import Derived.Deep.Draws
set_option linter.unusedSimpArgs false
set_option linter.unusedVariables false
set_option linter.unusedSectionVars false
namespace Go.Proofs.Ytkclfbmgnhmkhaa.MapB
open Go.RowKit

/-- What is asked of the keys' kind. -/
structure KeyKind {K : Type} [DecidableEq K] (P : Program) (mt kt et : TypeId) (kind : TypeDesc) (enc : K → Value) : Prop where
  hm : P.underlying mt = some (.map kt et)
  hk : P.underlying kt = some kind
  hs : ∀ a b : K, Instr.sameNow kind (enc a) (enc b) = some (decide (a = b))
  hc : ∀ em (x : K) w, (Instr.checkKey em 10000 kt (enc x)).run P w = .ok () w
  hz : ∀ w, (zeroValue et).run P w = .ok (.bool false) w

section
variable {K : Type} [DecidableEq K] {P : Program} {mt kt et : TypeId} {kind : TypeDesc} {enc : K → Value}

theorem find_now (h : KeyKind P mt kt et kind enc) (p : K) : ∀ (es : List MapEntry) (S : List K) (i : Nat), es.map (fun e => (e.key, e.val)) = S.map (fun q => (enc q, Value.bool true)) →
    ∃ r, Instr.findNow kind (enc p) es i = some r ∧ (p ∈ S → ∃ j, r = some (j, .bool true)) ∧ (p ∉ S → r = none)
  | [], S, i, e => by
    obtain rfl : S = [] := by simpa using e.symm
    exact ⟨none, rfl, by simp, by simp⟩
  | a :: es, S, i, e => by
    match S, e with
    | q :: S, e =>
      simp only [List.map_cons, List.cons.injEq, Prod.mk.injEq] at e
      obtain ⟨⟨h1, h2⟩, h3⟩ := e
      rw [Instr.findNow, h1, h.hs p q]
      by_cases hp : p = q
      · rw [decide_eq_true hp]
        exact ⟨some (i, a.val), rfl, fun _ => ⟨i, by rw [h2]⟩, fun hn => absurd (by simp [hp]) hn⟩
      · rw [decide_eq_false hp]
        obtain ⟨r, hr, ha, hb⟩ := find_now h p es S (i + 1) h3
        exact ⟨r, hr, fun hm => ha (by simpa [hp] using hm), fun hn => hb (fun hm => hn (by simp [hm]))⟩

theorem find_key (h : KeyKind P mt kt et kind enc) (p : K) (w : World) (es : List MapEntry) (S : List K) (e : es.map (fun e => (e.key, e.val)) = S.map (fun q => (enc q, Value.bool true))) :
    ∃ r, (Instr.findKey kt (enc p) es).run P w = .ok r w ∧ (p ∈ S → ∃ j, r = some (j, .bool true)) ∧ (p ∉ S → r = none) := by
  obtain ⟨r, hr, h1⟩ := find_now h p es S 0 e
  refine ⟨r, ?_, h1⟩
  simp only [Instr.findKey, Sem.run_bind, run_underlying h.hk, Result.andThen_ok, hr, Sem.run_pure]

/-- Block b is a map that holds just the keys S, each with true. -/
def MapAt (enc : K → Value) (b : Nat) (S : List K) (w : World) : Prop := ∃ es clock, w.heap[b]? = some (.map es clock) ∧ es.toList.map (fun e => (e.key, e.val)) = S.map (fun q => (enc q, Value.bool true))

theorem lookup_run (h : KeyKind P mt kt et kind enc) {b : Nat} {S : List K} {w : World} (ha : MapAt enc b S w) (p : K) : (Instr.lookup mt (.map (some b)) (enc p) false).run P w = .ok (.bool (decide (p ∈ S))) w := by
  obtain ⟨es, clock, hb, hs⟩ := ha
  obtain ⟨r, hr, h1, h2⟩ := find_key h p w es.toList S hs
  simp only [Instr.lookup, Sem.run_bind, run_underlying h.hm, Result.andThen_ok, run_getObj_map _ _ _ _ hb, Sem.run_pure, h.hc, hr]
  by_cases hm : p ∈ S
  · obtain ⟨j, rfl⟩ := h1 hm
    simp [hm]
  · obtain rfl := h2 hm
    simp [hm, h.hz]

theorem lookup_in (h : KeyKind P mt kt et kind enc) {b : Nat} {S : List K} {w : World} (ha : MapAt enc b S w) (p : K) (hp : p ∈ S) : (Instr.lookup mt (.map (some b)) (enc p) false).run P w = .ok (.bool true) w := by
  rw [lookup_run h ha p, decide_eq_true hp]
theorem lookup_out (h : KeyKind P mt kt et kind enc) {b : Nat} {S : List K} {w : World} (ha : MapAt enc b S w) (p : K) (hp : p ∉ S) : (Instr.lookup mt (.map (some b)) (enc p) false).run P w = .ok (.bool false) w := by
  rw [lookup_run h ha p, decide_eq_false hp]

theorem update_run (h : KeyKind P mt kt et kind enc) {b : Nat} {S : List K} {w : World} (ha : MapAt enc b S w) (p : K) (hp : p ∉ S) :
    ∃ w', (Instr.mapUpdate mt (.map (some b)) (enc p) (.bool true)).run P w = .ok () w' ∧ MapAt enc b (S ++ [p]) w' ∧ w.grownBy w' (some b) ∧ w'.heap.size = w.heap.size := by
  obtain ⟨es, clock, hb, hs⟩ := ha
  obtain ⟨r, hr, h1, h2⟩ := find_key h p w es.toList S hs
  obtain rfl := h2 hp
  have hlt : b < w.heap.size := (Array.getElem?_eq_some_iff.1 hb).1
  refine ⟨{ w with heap := w.heap.setIfInBounds b (.map (es.push { key := enc p, val := .bool true, born := clock }) (clock + 1)) }, ?_, ?_, ?_, by simp⟩
  · simp only [Instr.mapUpdate, Sem.run_bind, run_underlying h.hm, Result.andThen_ok, run_getObj_map _ _ _ _ hb, Sem.run_pure, h.hc, hr]
    exact MapKept.run_setObj_map _ hb
  · refine ⟨es.push { key := enc p, val := .bool true, born := clock }, clock + 1, ?_, ?_⟩
    · simp [hlt]
    · simp [hs]
  · refine ⟨rfl, rfl, rfl, by simp, fun k hk hne => ?_⟩
    have : b ≠ k := fun e => hne (by rw [e])
    simp [this]

theorem MapAt.fresh (enc : K → Value) (w : World) : MapAt enc w.heap.size [] (w.alloc (.map #[] 0)) := by
  refine ⟨#[], 0, ?_, rfl⟩
  show (w.heap.push _)[w.heap.size]? = _
  rw [Array.getElem?_push_size]
theorem MapAt.keep {b : Nat} {S : List K} {w w' : World} (h : MapAt enc b S w) (e : w'.heap[b]? = w.heap[b]?) : MapAt enc b S w' := by
  obtain ⟨es, clock, hb, hs⟩ := h
  exact ⟨es, clock, e.trans hb, hs⟩
theorem MapAt.lt {b : Nat} {S : List K} {w : World} (h : MapAt enc b S w) : b < w.heap.size := by
  obtain ⟨es, clock, hb, hs⟩ := h
  exact (Array.getElem?_eq_some_iff.1 hb).1
theorem MapAt.alloc {b : Nat} {S : List K} {w : World} (h : MapAt enc b S w) (o : Obj) : MapAt enc b S (w.alloc o) := h.keep (Below.heap_alloc w o b h.lt)
theorem MapAt.drewN {b : Nat} {S : List K} {w : World} (h : MapAt enc b S w) (n : Nat) : MapAt enc b S (w.drewN n) := h.keep rfl
theorem MapAt.setCell {b : Nat} {S : List K} {w : World} (h : MapAt enc b S w) (a : Addr) (v : Value) (hne : a.block ≠ b) : MapAt enc b S (w.setCell a v) := h.keep (Below.heap_setCell w a v b (fun e => hne e.symm))
theorem MapAt.below {B b : Nat} {S : List K} {w w' : World} (h : MapAt enc b S w) (hb : Below w.heap.size w w') : MapAt enc b S w' := h.keep (hb.block b h.lt)
end

theorem intKind {P : Program} {mt kt et : TypeId} (hm : P.underlying mt = some (.map kt et)) (hk : P.underlying kt = some (.int .i64)) (hz : ∀ w, (zeroValue et).run P w = .ok (.bool false) w) : KeyKind P mt kt et (.int .i64) (fun x : Int => Value.int .i64 x) where
  hm := hm
  hk := hk
  hs := fun a b => by
    show (if IntKind.i64 = IntKind.i64 then some (a == b) else none) = some (decide (a = b))
    rw [if_pos rfl]
    congr 1
  hc := fun em x w => by
    show (Instr.checkKey em (9999 + 1) kt _).run P w = _
    rw [Instr.checkKey]
    simp [run_underlying hk]
  hz := hz
theorem strKind {P : Program} {mt kt et : TypeId} (hm : P.underlying mt = some (.map kt et)) (hk : P.underlying kt = some .string) (hz : ∀ w, (zeroValue et).run P w = .ok (.bool false) w) : KeyKind P mt kt et .string (fun x : ByteArray => Value.string x) where
  hm := hm
  hk := hk
  hs := fun a b => by
    show some (a == b) = some (decide (a = b))
    congr 1
    rw [Bool.eq_iff_iff, decide_eq_true_eq]
    show (a.data == b.data) = true ↔ a = b
    rw [beq_iff_eq]
    exact ⟨fun h => ByteArray.ext h, fun h => by rw [h]⟩
  hc := fun em x w => by
    show (Instr.checkKey em (9999 + 1) kt _).run P w = _
    rw [Instr.checkKey]
    simp [run_underlying hk]
  hz := hz

end Go.Proofs.Ytkclfbmgnhmkhaa.MapB
