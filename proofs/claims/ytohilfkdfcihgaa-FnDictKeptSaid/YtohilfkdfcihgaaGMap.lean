/- A map keyed by pairs of numbers, all of whose elements are true: what a look-up in it and a store into it do. No condition beyond those of the theorems. -/
import Derived.Test.YtohilfkdfcihgaaGFind
import Derived.Laws.StructEq
import Derived.Maps.Own
set_option linter.unusedSimpArgs false
set_option linter.unusedVariables false
namespace Go.Proofs.Ytohilfkdfcihgaa.PDi
open Go.RowKit
theorem u83 : Try.prog.underlying 83 = some (.struct (Try.prog.fieldsOf 83)) := by kernel_rfl
theorem f83 : (Try.prog.fieldsOf 83).toList = [⟨"h", 35, 0, false, "", "loop.example/g00009/impl", 0⟩, ⟨"k", 2, 1, false, "", "loop.example/g00009/impl", 8⟩] := by
  unfold Program.fieldsOf
  rw [Try.underlying83]
def kv (p : Int × Int) : Value := .agg #[.int .u64 p.1, .int .i64 p.2]
theorem eq83 (p q : Int × Int) (w : World) : (Op.equal 83 (kv p) (kv q)).run Try.prog w = .ok (decide (p = q)) w := by
  obtain ⟨a, b⟩ := p
  obtain ⟨c, d⟩ := q
  show (Op.equalIn 10000 83 _ _).run Try.prog w = _
  unfold kv
  rw [run_equalIn_struct w 9999 83 _ _ u83 (by kernel_rfl), f83]
  simp [Op.eqFields, go_sem]
  by_cases h1 : a = c <;> by_cases h2 : b = d <;> simp [h1, h2]
theorem check_int (em : Bool) (n : Nat) (t : TypeId) (k : IntKind) (x : Int) (w : World) (h : Try.prog.underlying t = some (.int k)) : (Instr.checkKey em (n + 1) t (.int k x)).run Try.prog w = .ok () w := by
  rw [Instr.checkKey]
  simp [run_underlying h]
theorem check83 (em : Bool) (p : Int × Int) (w : World) : (Instr.checkKey em 10000 83 (kv p)).run Try.prog w = .ok () w := by
  unfold kv
  show (Instr.checkKey em (9999 + 1) 83 _).run Try.prog w = _
  rw [Instr.checkKey]
  simp [go_sem]
  rw [check_int em 9998 35 .u64 p.1 w Try.underlying35]
  simp only [Result.andThen_ok]
  rw [check_int em 9998 2 .i64 p.2 w Try.underlying2]
theorem find83 (p : Int × Int) (w : World) : ∀ (es : List MapEntry) (S : List (Int × Int)) (i : Nat), es.map (fun e => (e.key, e.val)) = S.map (fun q => (kv q, Value.bool true)) →
    ∃ r, (Instr.findAsking 83 (kv p) es i).run Try.prog w = .ok r w ∧ (p ∈ S → ∃ j, r = some (j, .bool true)) ∧ (p ∉ S → r = none)
  | [], S, i, h => by
    obtain rfl : S = [] := by simpa using h.symm
    exact ⟨none, by simp [Instr.findAsking], by simp, by simp⟩
  | e :: es, S, i, h => by
    match S, h with
    | q :: S, h =>
      simp only [List.map_cons, List.cons.injEq, Prod.mk.injEq] at h
      obtain ⟨⟨h1, h2⟩, h3⟩ := h
      by_cases hp : p = q
      · refine ⟨some (i, e.val), ?_, fun _ => ⟨i, by rw [h2]⟩, fun hn => absurd (by simp [hp]) hn⟩
        rw [Instr.findAsking, h1]
        simp [eq83, hp]
      · obtain ⟨r, hr, ha, hb⟩ := find83 p w es S (i + 1) h3
        refine ⟨r, ?_, fun hm => ha (by simpa [hp] using hm), fun hn => hb (fun hm => hn (by simp [hm]))⟩
        rw [Instr.findAsking, h1]
        simp [eq83, hp, hr]
theorem findKey83 (p : Int × Int) (w : World) (es : List MapEntry) (S : List (Int × Int)) (h : es.map (fun e => (e.key, e.val)) = S.map (fun q => (kv q, Value.bool true))) :
    ∃ r, (Instr.findKey 83 (kv p) es).run Try.prog w = .ok r w ∧ (p ∈ S → ∃ j, r = some (j, .bool true)) ∧ (p ∉ S → r = none) := by
  obtain ⟨r, hr, h1⟩ := find83 p w es S 0 h
  refine ⟨r, ?_, h1⟩
  cases es with
  | nil =>
    rw [Instr.findAsking] at hr
    simp only [Instr.findKey, Sem.run_bind, run_underlying u83, Result.andThen_ok, Instr.findNow]
    exact hr
  | cons e es =>
    obtain ⟨q, S', rfl⟩ : ∃ q S', S = q :: S' := by
      cases S with
      | nil => simp at h
      | cons q S' => exact ⟨q, S', rfl⟩
    have hk : e.key = kv q := by
      simp only [List.map_cons, List.cons.injEq, Prod.mk.injEq] at h
      exact h.1.1
    have hs : Instr.sameNow (.struct (Try.prog.fieldsOf 83)) (kv p) e.key = none := by rw [hk]; rfl
    simp only [Instr.findKey, Sem.run_bind, run_underlying u83, Result.andThen_ok, Instr.findNow, hs]
    exact hr
def MapAt (b : Nat) (S : List (Int × Int)) (w : World) : Prop := ∃ es clock, w.heap[b]? = some (.map es clock) ∧ es.toList.map (fun e => (e.key, e.val)) = S.map (fun q => (kv q, Value.bool true))
theorem zero4 (w : World) : (zeroValue 4).run Try.prog w = .ok (.bool false) w := by kernel_rfl
theorem lookup_run {b : Nat} {S : List (Int × Int)} {w : World} (h : MapAt b S w) (p : Int × Int) : (Instr.lookup 80 (.map (some b)) (kv p) false).run Try.prog w = .ok (.bool (decide (p ∈ S))) w := by
  obtain ⟨es, clock, hb, hs⟩ := h
  obtain ⟨r, hr, h1, h2⟩ := findKey83 p w es.toList S hs
  simp only [Instr.lookup, Sem.run_bind, run_underlying Try.underlying80, Result.andThen_ok, run_getObj_map _ _ _ _ hb, Sem.run_pure, check83, hr]
  by_cases hm : p ∈ S
  · obtain ⟨j, rfl⟩ := h1 hm
    simp [hm]
  · obtain rfl := h2 hm
    simp [hm, zero4]
theorem update_run {b : Nat} {S : List (Int × Int)} {w : World} (h : MapAt b S w) (p : Int × Int) (hp : p ∉ S) :
    ∃ w', (Instr.mapUpdate 80 (.map (some b)) (kv p) (.bool true)).run Try.prog w = .ok () w' ∧ MapAt b (S ++ [p]) w' ∧ w.grownBy w' (some b) := by
  obtain ⟨es, clock, hb, hs⟩ := h
  obtain ⟨r, hr, h1, h2⟩ := findKey83 p w es.toList S hs
  obtain rfl := h2 hp
  have hlt : b < w.heap.size := (Array.getElem?_eq_some_iff.1 hb).1
  refine ⟨{ w with heap := w.heap.setIfInBounds b (.map (es.push { key := kv p, val := .bool true, born := clock }) (clock + 1)) }, ?_, ?_, ?_⟩
  · simp only [Instr.mapUpdate, Sem.run_bind, run_underlying Try.underlying80, Result.andThen_ok, run_getObj_map _ _ _ _ hb, Sem.run_pure, check83, hr]
    exact MapKept.run_setObj_map _ hb
  · refine ⟨es.push { key := kv p, val := .bool true, born := clock }, clock + 1, ?_, ?_⟩
    · simp [hlt]
    · simp [hs]
  · refine ⟨rfl, rfl, rfl, by simp, fun k hk hne => ?_⟩
    have : b ≠ k := fun e => hne (by rw [e])
    simp [this]
end Go.Proofs.Ytohilfkdfcihgaa.PDi
