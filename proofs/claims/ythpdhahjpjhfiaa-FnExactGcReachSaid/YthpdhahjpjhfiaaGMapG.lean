/- Maps from whole numbers to slice values: what a look-up in one and a store into one do, over any program. No condition beyond those of the theorems. -/
import Derived.Test.YthpdhahjpjhfiaaProg
import Derived.Maps.OwnRows
import Derived.WalkKit
import Derived.WalkSmall
import Derived.Below
import Derived.Deep.Draws
set_option linter.unusedSimpArgs false
set_option linter.unusedVariables false
set_option linter.unusedSectionVars false
namespace Go.Proofs.Ythpdhahjpjhfiaa.MapG
open Go.RowKit

/-- What is asked of the map's kind. -/
structure RowKind (P : Program) (mt kt et : TypeId) : Prop where
  hm : P.underlying mt = some (.map kt et)
  hk : P.underlying kt = some (.int .i64)
  hz : ∀ w, (zeroValue et).run P w = .ok (.slice none 0 0) w

/-- A key, as the map has it. -/
abbrev enc (x : Int) : Value := .int .i64 x

theorem same_enc (a b : Int) : Instr.sameNow (.int .i64) (enc a) (enc b) = some (decide (a = b)) := by
  show (if IntKind.i64 = IntKind.i64 then some (a == b) else none) = some (decide (a = b))
  rw [if_pos rfl]
  congr 1

/-- What lies at a key: the first entry's value, or nil. -/
def look (S : List (Int × Value)) (p : Int) : Value := match S with
  | [] => .slice none 0 0
  | q :: S => if p = q.1 then q.2 else look S p

theorem find_now (p : Int) : ∀ (es : List MapEntry) (S : List (Int × Value)) (i : Nat), es.map (fun e => (e.key, e.val)) = S.map (fun q => (enc q.1, q.2)) →
    ∃ r, Instr.findNow (.int .i64) (enc p) es i = some r ∧
      ((r = none ∧ look S p = .slice none 0 0 ∧ ∀ v k, look (S ++ [(p, v)]) k = if k = p then v else look S k) ∨
       (∃ j, r = some (i + j, look S p) ∧ (∃ u, S[j]? = some (p, u)) ∧ ∀ v k, look (S.set j (p, v)) k = if k = p then v else look S k))
  | [], S, i, e => by
    obtain rfl : S = [] := by simpa using e.symm
    exact ⟨none, rfl, .inl ⟨rfl, rfl, fun v k => rfl⟩⟩
  | a :: es, S, i, e => by
    match S, e with
    | q :: S, e =>
      simp only [List.map_cons, List.cons.injEq, Prod.mk.injEq] at e
      obtain ⟨⟨h1, h2⟩, h3⟩ := e
      rw [Instr.findNow, h1, same_enc p q.1]
      by_cases hp : p = q.1
      · rw [decide_eq_true hp]
        refine ⟨some (i, a.val), rfl, .inr ⟨0, ?_, ⟨q.2, ?_⟩, fun v k => ?_⟩⟩
        · rw [h2, look, if_pos hp, Nat.add_zero]
        · rw [hp]; rfl
        · show (if k = p then v else look S k) = _
          by_cases hk : k = p
          · rw [if_pos hk, if_pos hk]
          · rw [if_neg hk, if_neg hk, look, if_neg (by rw [← hp]; exact hk)]
      · rw [decide_eq_false hp]
        obtain ⟨r, hr, ha⟩ := find_now p es S (i + 1) h3
        refine ⟨r, hr, ?_⟩
        rcases ha with ⟨h4, h5, h6⟩ | ⟨j, h4, ⟨u, h5⟩, h6⟩
        · refine .inl ⟨h4, ?_, fun v k => ?_⟩
          · rw [look, if_neg hp]; exact h5
          · show (if k = q.1 then q.2 else look (S ++ [(p, v)]) k) = if k = p then v else (if k = q.1 then q.2 else look S k)
            rw [h6]
            by_cases hk : k = q.1
            · rw [if_pos hk, if_pos hk, if_neg (by rw [hk]; exact fun e => hp e.symm)]
            · rw [if_neg hk, if_neg hk]
        · refine .inr ⟨j + 1, ?_, ⟨u, ?_⟩, fun v k => ?_⟩
          · rw [h4, look, if_neg hp]
            congr 2
            omega
          · simpa using h5
          · show (if k = q.1 then q.2 else look (S.set j (p, v)) k) = if k = p then v else (if k = q.1 then q.2 else look S k)
            rw [h6]
            by_cases hk : k = q.1
            · rw [if_pos hk, if_pos hk, if_neg (by rw [hk]; exact fun e => hp e.symm)]
            · rw [if_neg hk, if_neg hk]

section
variable {P : Program} {mt kt et : TypeId}

/-- Block b is a map that answers at each key what V says. -/
def MapFn (b : Nat) (V : Int → Value) (w : World) : Prop :=
  ∃ es clock S, w.heap[b]? = some (.map es clock) ∧ es.toList.map (fun e => (e.key, e.val)) = S.map (fun q : Int × Value => (enc q.1, q.2)) ∧ ∀ k, look S k = V k

theorem find_key (h : RowKind P mt kt et) (p : Int) (w : World) (es : List MapEntry) (r : Option (Nat × Value)) (hr : Instr.findNow (.int .i64) (enc p) es 0 = some r) : (Instr.findKey kt (enc p) es).run P w = .ok r w := by
  simp only [Instr.findKey, Sem.run_bind, run_underlying h.hk, Result.andThen_ok, hr, Sem.run_pure]

theorem check_key (h : RowKind P mt kt et) (em : Bool) (x : Int) (w : World) : (Instr.checkKey em 10000 kt (enc x)).run P w = .ok () w := by
  show (Instr.checkKey em (9999 + 1) kt _).run P w = _
  rw [Instr.checkKey]
  simp [run_underlying h.hk]

theorem lookup_run (h : RowKind P mt kt et) {b : Nat} {V : Int → Value} {w : World} (ha : MapFn b V w) (p : Int) : (Instr.lookup mt (.map (some b)) (enc p) false).run P w = .ok (V p) w := by
  obtain ⟨es, clock, S, hb, hs, hV⟩ := ha
  obtain ⟨r, hr, h1⟩ := find_now p es.toList S 0 hs
  simp only [Instr.lookup, Sem.run_bind, run_underlying h.hm, Result.andThen_ok, run_getObj_map _ _ _ _ hb, Sem.run_pure, check_key h, find_key h p w es.toList r hr]
  rcases h1 with ⟨rfl, h2, h3⟩ | ⟨j, rfl, _⟩
  · simp [h.hz, ← hV, h2]
  · simp [← hV]

theorem stays (x : Int) (w : World) : (Instr.keyThatStays (enc x) (enc x)).run P w = .ok (enc x) w := by
  have : Instr.sameBits 10000 (enc x) (enc x) = true := by
    show Instr.sameBits (9999 + 1) (.int .i64 x) (.int .i64 x) = true
    simp [Instr.sameBits]
  simp [Instr.keyThatStays, this]

theorem update_run (h : RowKind P mt kt et) {b : Nat} {V : Int → Value} {w : World} (ha : MapFn b V w) (p : Int) (v : Value) :
    ∃ w', (Instr.mapUpdate mt (.map (some b)) (enc p) v).run P w = .ok () w' ∧ MapFn b (fun k => if k = p then v else V k) w' ∧ w.grownBy w' (some b) ∧ w'.heap.size = w.heap.size := by
  obtain ⟨es, clock, S, hb, hs, hV⟩ := ha
  obtain ⟨r, hr, h1⟩ := find_now p es.toList S 0 hs
  have hlt : b < w.heap.size := (Array.getElem?_eq_some_iff.1 hb).1
  rcases h1 with ⟨rfl, h2, h3⟩ | ⟨j, rfl, ⟨u, hj⟩, h3⟩
  · refine ⟨{ w with heap := w.heap.setIfInBounds b (.map (es.push { key := enc p, val := v, born := clock }) (clock + 1)) }, ?_, ?_, ?_, by simp⟩
    · simp only [Instr.mapUpdate, Sem.run_bind, run_underlying h.hm, Result.andThen_ok, run_getObj_map _ _ _ _ hb, Sem.run_pure, check_key h, find_key h p w es.toList _ hr]
      exact MapKept.run_setObj_map _ hb
    · refine ⟨es.push { key := enc p, val := v, born := clock }, clock + 1, S ++ [(p, v)], ?_, ?_, fun k => ?_⟩
      · simp [hlt]
      · simp [hs]
      · rw [h3, hV]
    · refine ⟨rfl, rfl, rfl, by simp, fun k hk hne => ?_⟩
      have : b ≠ k := fun e => hne (by rw [e])
      simp [this]
  · have hjl : j < es.toList.length := by
      have h4 := congrArg List.length hs
      simp only [List.length_map] at h4
      rw [h4]
      exact (List.getElem?_eq_some_iff.1 hj).1
    have hkey : ((es[0 + j]?).map (·.key)) = some (enc p) := by
      have h4 := congrArg (fun l => l[j]?) hs
      simp only [List.getElem?_map, hj, Option.map_some] at h4
      rw [Nat.zero_add, ← Array.getElem?_toList]
      cases he : es.toList[j]? with
      | none => rw [he] at h4; simp at h4
      | some e => rw [he] at h4; simp at h4; simp [h4.1]
    refine ⟨{ w with heap := w.heap.setIfInBounds b (.map (es.modify (0 + j) fun e => { e with key := enc p, val := v }) clock) }, ?_, ?_, ?_, by simp⟩
    · simp only [Instr.mapUpdate, Sem.run_bind, run_underlying h.hm, Result.andThen_ok, run_getObj_map _ _ _ _ hb, Sem.run_pure, check_key h, find_key h p w es.toList _ hr, hkey, Option.getD_some, stays]
      exact MapKept.run_setObj_map _ hb
    · refine ⟨es.modify (0 + j) fun e => { e with key := enc p, val := v }, clock, S.set j (p, v), ?_, ?_, fun k => ?_⟩
      · simp [hlt]
      · rw [Nat.zero_add, Array.toList_modify]
        apply List.ext_getElem?
        intro i
        have h4 := congrArg (fun l => l[i]?) hs
        simp only [List.getElem?_map] at h4
        simp only [List.getElem?_map, List.getElem?_modify, List.getElem?_set]
        by_cases hi : j = i
        · subst hi
          have h5 : j < S.length := (List.getElem?_eq_some_iff.1 hj).1
          simp [h5]
          exact ⟨_, Array.getElem?_eq_getElem (by simpa using hjl)⟩
        · simp [hi]
          simpa using h4
      · rw [h3, hV]
    · refine ⟨rfl, rfl, rfl, by simp, fun k hk hne => ?_⟩
      have : b ≠ k := fun e => hne (by rw [e])
      simp [this]

theorem MapFn.fresh (w : World) : MapFn w.heap.size (fun _ => .slice none 0 0) (w.alloc (.map #[] 0)) := by
  refine ⟨#[], 0, [], ?_, rfl, fun _ => rfl⟩
  show (w.heap.push _)[w.heap.size]? = _
  rw [Array.getElem?_push_size]
theorem MapFn.keep {b : Nat} {V : Int → Value} {w w' : World} (h : MapFn b V w) (e : w'.heap[b]? = w.heap[b]?) : MapFn b V w' := by
  obtain ⟨es, clock, S, hb, hs⟩ := h
  exact ⟨es, clock, S, e.trans hb, hs⟩
theorem MapFn.lt {b : Nat} {V : Int → Value} {w : World} (h : MapFn b V w) : b < w.heap.size := by
  obtain ⟨es, clock, S, hb, hs⟩ := h
  exact (Array.getElem?_eq_some_iff.1 hb).1
theorem MapFn.alloc {b : Nat} {V : Int → Value} {w : World} (h : MapFn b V w) (o : Obj) : MapFn b V (w.alloc o) := h.keep (Below.heap_alloc w o b h.lt)
theorem MapFn.drewN {b : Nat} {V : Int → Value} {w : World} (h : MapFn b V w) (n : Nat) : MapFn b V (w.drewN n) := h.keep rfl
theorem MapFn.setCell {b : Nat} {V : Int → Value} {w : World} (h : MapFn b V w) (a : Addr) (v : Value) (hne : a.block ≠ b) : MapFn b V (w.setCell a v) := h.keep (Below.heap_setCell w a v b (fun e => hne e.symm))
theorem MapFn.below {b : Nat} {V : Int → Value} {w w' : World} (h : MapFn b V w) (hb : Below w.heap.size w w') : MapFn b V w' := h.keep (hb.block b h.lt)
theorem MapFn.grown {b : Nat} {V : Int → Value} {w w' : World} {row : Option Nat} (h : MapFn b V w) (hg : w.grownBy w' row) (hne : some b ≠ row) : MapFn b V w' := h.keep (hg.block b h.lt hne)

/-- The slice value v is a row of the call's own that holds the numbers zs. -/
abbrev Ow (e : TypeId) (w : World) (base : Nat) (v : Value) (zs : List Int) : Prop := w.ownsRow base e 1 v zs.length (zs.map (Value.int .i64))

/-- The map at block b, and at each key a row of its own, from block base on, that holds the numbers Z says; b lies below base. -/
structure Groups (base : Nat) (e : TypeId) (b : Nat) (Z : Int → List Int) (w : World) : Prop where
  got : ∃ V, MapFn b V w ∧ (∀ k, Ow e w base (V k) (Z k)) ∧ (∀ j k, j ≠ k → (V j).ownBlock = none ∨ (V j).ownBlock ≠ (V k).ownBlock)
  lt : b < base

theorem Groups.fresh (w : World) (e : TypeId) : Groups (w.heap.size + 1) e w.heap.size (fun _ => []) (w.alloc (.map #[] 0)) :=
  ⟨⟨_, MapFn.fresh w, fun _ => World.ownsRow_nil _ _ _ _, fun _ _ _ => .inl rfl⟩, Nat.lt_succ_self _⟩

theorem ow_below {e : TypeId} {w w' : World} {base B : Nat} {v : Value} {zs : List Int} (h : Ow e w base v zs) (hb : Below B w w') (hB : w.heap.size ≤ B) : Ow e w' base v zs := by
  obtain ⟨h5, h6⟩ := h
  refine ⟨h5, ?_⟩
  rcases h6 with h6 | ⟨g, cap, cur, a1, a2, a3, a4⟩
  · exact .inl h6
  · exact .inr ⟨g, cap, cur, a1, a2, (hb.block g (Nat.lt_of_lt_of_le (Array.getElem?_eq_some_iff.1 a3).1 hB)).trans a3, a4⟩

theorem Groups.below {base b : Nat} {e : TypeId} {Z : Int → List Int} {w w' : World} (h : Groups base e b Z w) (hb : Below w.heap.size w w') : Groups base e b Z w' := by
  obtain ⟨⟨V, h1, h2, h3⟩, h4⟩ := h
  exact ⟨⟨V, h1.below hb, fun k => ow_below (h2 k) hb (Nat.le_refl _), h3⟩, h4⟩

/-- Behind an append onto the row at x, and the store of what came back at x. -/
theorem Groups.stored {base b : Nat} {e : TypeId} {w w1 w2 : World} {V : Int → Value} {Z : Int → List Int} {x : Int} {v1 : Value} {zs1 : List Int}
    (h2 : ∀ k, Ow e w base (V k) (Z k)) (h3 : ∀ j k, j ≠ k → (V j).ownBlock = none ∨ (V j).ownBlock ≠ (V k).ownBlock) (hlt : b < base)
    (hg1 : w.grownBy w1 (V x).ownBlock) (ho : Ow e w1 base v1 zs1) (hat : v1.ownBlock = (V x).ownBlock ∨ ∃ g, v1.ownBlock = some g ∧ w.heap.size ≤ g)
    (hg2 : w1.grownBy w2 (some b)) (hm : MapFn b (fun k => if k = x then v1 else V k) w2) : Groups base e b (fun k => if k = x then zs1 else Z k) w2 := by
  have hnb : ∀ {u : Value} {zs : List Int} {w' : World}, Ow e w' base u zs → u.ownBlock = none ∨ u.ownBlock ≠ some b := fun {u zs w'} h => by
    cases hu : u.ownBlock with
    | none => exact .inl rfl
    | some g =>
      refine .inr fun e1 => ?_
      injection e1 with e1
      subst e1
      have := (h.lt _ hu).1
      omega
  refine ⟨⟨_, hm, fun k => ?_, fun j k hjk => ?_⟩, hlt⟩
  · by_cases hk : k = x
    · rw [if_pos hk, if_pos hk]
      exact ho.kept hg2 (hnb ho)
    · rw [if_neg hk, if_neg hk]
      have h4 := (h2 k).kept hg1 (h3 k x hk)
      exact h4.kept hg2 (hnb h4)
  · have hnew : ∀ k, ∀ g, (V k).ownBlock = some g → g < w.heap.size := fun k g hg => ((h2 k).lt g hg).2
    by_cases hj : j = x
    · subst hj
      rw [if_pos rfl, if_neg (fun e1 => hjk e1.symm)]
      rcases hat with h5 | ⟨g, h5, h6⟩
      · rw [h5]; exact h3 j k hjk
      · rw [h5]
        refine .inr fun e1 => ?_
        have := hnew k g e1.symm
        omega
    · rw [if_neg hj]
      by_cases hk : k = x
      · subst hk
        rw [if_pos rfl]
        rcases hat with h5 | ⟨g, h5, h6⟩
        · rw [h5]; exact h3 j k hjk
        · rw [h5]
          cases hu : (V j).ownBlock with
          | none => exact .inl rfl
          | some q =>
            refine .inr fun e1 => ?_
            injection e1 with e1
            have := hnew j q hu
            omega
      · rw [if_neg hk]
        exact h3 j k hjk

end
end Go.Proofs.Ythpdhahjpjhfiaa.MapG
