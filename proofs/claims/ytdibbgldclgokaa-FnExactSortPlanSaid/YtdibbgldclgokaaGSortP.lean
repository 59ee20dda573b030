/- The passes of the sort: the plain laws of one step, and what lies where while two runs are laid together. No condition beyond those of the theorems. -/
import Derived.Test.YtdibbgldclgokaaGAsk
import Derived.WalkSmall
namespace Go.Proofs.Ytdibbgldclgokaa.PS
open Go.RowKit Go.Proofs.YtdibbgldclgokaaW.PrintWords Go.Proofs.YtdibbgldclgokaaW.PrintLast Go.Proofs.YtdibbgldclgokaaW.PrintMore Go.Proofs.Ytdibbgldclgokaa.SortM
set_option linter.unusedVariables false
set_option linter.unusedSimpArgs false

/-- The slice value v is a row of the call's own that holds the numbers zs. -/
abbrev Ow (w : World) (base : Nat) (v : Value) (zs : List Int) : Prop := w.ownsRow base 2 1 v zs.length (zs.map (Value.int .i64))
/-- Its block is none of C. -/
def Off (C : Nat → Prop) (v : Value) : Prop := ∀ k, v.ownBlock = some k → ¬ C k
/-- A row of things that can be asked about. -/
def RowOk (N : Nat) (L : List Int) : Prop := 1 ≤ L.length ∧ ∀ x ∈ L, 0 ≤ x ∧ x < (N : Int)

theorem ow_moved {C C' : Nat → Prop} {w w' : World} {base : Nat} {v : Value} {zs : List Int} (h : Ow w base v zs) (ho : Off C v) (hm : Moved C C' w w') : Ow w' base v zs ∧ Off C' v := by
  have hlt := h.lt
  obtain ⟨h5, h6⟩ := h
  refine ⟨⟨h5, ?_⟩, fun k hk hc => ?_⟩
  · rcases h6 with h6 | ⟨g, cap, cur, rfl, a2, a3, a4⟩
    · exact .inl h6
    · exact .inr ⟨g, cap, cur, rfl, a2, (hm.block g (Array.getElem?_eq_some_iff.1 a3).1 (ho g rfl)).trans a3, a4⟩
  · rcases hm.new k hc with h1 | h1
    · exact ho k hk h1
    · have := (hlt k hk).2
      omega

section
variable {O : Oracle}
theorem merge_stop {f : Nat} {s : Asked} {a b out : List Int} (h : a = [] ∨ b = []) : merge O f s a b out = (s, some (out ++ a ++ b)) := by
  cases f with
  | zero => rfl
  | succ f =>
    rcases h with rfl | rfl
    · rw [merge, List.append_nil]
    · cases a with
      | nil => rw [merge]; simp
      | cons x a => rw [merge]; simp; simp
theorem merge_on {f : Nat} {s : Asked} {x y : Int} {a b out : List Int} (b0 : Bool) (h : O s.length y x = some b0) : merge O (f + 1) s (x :: a) (y :: b) out = if b0 = true then merge O f (s ++ [(y, x)]) (x :: a) b (out ++ [y]) else merge O f (s ++ [(y, x)]) a (y :: b) (out ++ [x]) := by
  rw [merge, h]
  cases b0 <;> rfl
theorem merge_none {f : Nat} {s : Asked} {x y : Int} {a b out : List Int} (h : O s.length y x = none) : merge O (f + 1) s (x :: a) (y :: b) out = (s ++ [(y, x)], none) := by
  rw [merge, h]
theorem pass_on {s s' : Asked} {a b m : List Int} {R N : List (List Int)} (h : merge O (a.length + b.length) s a b [] = (s', some m)) : pass O s (a :: b :: R) N = pass O s' R (N ++ [m]) := by
  rw [pass, h]
theorem pass_none {s s' : Asked} {a b : List Int} {R N : List (List Int)} (h : merge O (a.length + b.length) s a b [] = (s', none)) : pass O s (a :: b :: R) N = (s', none) := by
  rw [pass, h]
theorem pass_last (s : Asked) (a : List Int) (N : List (List Int)) : pass O s [a] N = (s, some (N ++ [a])) := by rw [pass]
theorem pass_end (s : Asked) (N : List (List Int)) : pass O s [] N = (s, some N) := by rw [pass]
theorem passes_on {f : Nat} {s s' : Asked} {R N : List (List Int)} (hl : 1 < R.length) (h : pass O s R [] = (s', some N)) : passes O (f + 1) s R = passes O f s' N := by
  rw [passes, if_pos hl, h]
theorem passes_none {f : Nat} {s s' : Asked} {R : List (List Int)} (hl : 1 < R.length) (h : pass O s R [] = (s', none)) : passes O (f + 1) s R = (s', none) := by
  rw [passes, if_pos hl, h]
theorem passes_stop {f : Nat} {s : Asked} {R : List (List Int)} (hl : ¬ 1 < R.length) : passes O f s R = (s, some R) := by
  cases f with
  | zero => rfl
  | succ f => rw [passes, if_neg hl]
theorem sort_of {N : Nat} {s s' : Asked} {R R' : List (List Int)} (h : runs O (N : Int) N [] 0 [] = (s, some R)) (h2 : passes O R.length s R = (s', some R')) : sort O (N : Int) = (s', some (R'.getD 0 [])) := by
  unfold sort
  rw [Int.toNat_natCast, h]
  simp only
  rw [h2]
theorem sort_none {N : Nat} {s s' : Asked} {R : List (List Int)} (h : runs O (N : Int) N [] 0 [] = (s, some R)) (h2 : passes O R.length s R = (s', none)) : sort O (N : Int) = (s', none) := by
  unfold sort
  rw [Int.toNat_natCast, h]
  simp only
  rw [h2]
end

theorem drop_two {α : Type} {R : List α} {k : Nat} (h : k + 1 < R.length) : ∃ A B, R[k]? = some A ∧ R[k + 1]? = some B ∧ R.drop k = A :: B :: R.drop (k + 2) :=
  ⟨R[k], R[k + 1], List.getElem?_eq_getElem (by omega), List.getElem?_eq_getElem h, by rw [List.drop_eq_getElem_cons (by omega), List.drop_eq_getElem_cons h]⟩
theorem drop_one {α : Type} {R : List α} {k : Nat} (h : k + 1 = R.length) : ∃ A, R[k]? = some A ∧ R.drop k = [A] :=
  ⟨R[k], List.getElem?_eq_getElem (by omega), by rw [List.drop_eq_getElem_cons (by omega), List.drop_eq_nil_of_le (by omega)]⟩

/-- The row of block g (elder than h0, none of C) holds L. -/
structure RowAt (w : World) (base h0 : Nat) (C : Nat → Prop) (g n c : Nat) (L : List Int) : Prop where
  own : w.ownsRow base 2 1 (.slice (some ⟨g, 0, none⟩) n c) n (L.map (Value.int .i64))
  off : ¬ C g
  lt : g < h0
  len : L.length = n
theorem RowAt.moved {w w' : World} {base h0 : Nat} {C C' : Nat → Prop} {g n c : Nat} {L : List Int} (h : RowAt w base h0 C g n c L) (hm : Moved C C' w w') : RowAt w' base h0 C' g n c L := by
  have hl := h.len
  subst hl
  have h1 := ow_moved (zs := L) h.own (fun k hk => by
    have : g = k := by simpa [Value.ownBlock] using hk
    rw [← this]; exact h.off) hm
  exact ⟨h1.1, h1.2 g rfl, h.lt, rfl⟩
theorem RowAt.grown {w w' : World} {base h0 : Nat} {C : Nat → Prop} {g n c : Nat} {L : List Int} (h : RowAt w base h0 C g n c L) {row : Option Nat} (hg : w.grownBy w' row) (hr : ∀ k, row = some k → h0 ≤ k) : RowAt w' base h0 C g n c L :=
  ⟨h.own.kept hg (.inr (fun e => by
    have h1 := hr g e.symm
    have h2 := h.lt
    omega)), h.off, h.lt, h.len⟩
theorem RowAt.cell {w : World} {base h0 : Nat} {C : Nat → Prop} {g n c : Nat} {L : List Int} (h : RowAt w base h0 C g n c L) {p : Nat} {x : Int} (hx : L[p]? = some x) : w.cell? ⟨g, p, none⟩ = some (.int .i64 x) := by
  have hp := (List.getElem?_eq_some_iff.1 hx).1
  rw [h.own.cellAt p (by have := h.len; omega), List.getElem?_map, hx]
  rfl

/-- What lies where while two runs (blocks ga and gb) are laid together in out. -/
structure Mg (I : Asked → (Nat → Prop) → World → Prop) (C0 : Nat → Prop) (w0 : World) (h0 : Nat) (u : Value) (R : List (List Int)) (nx : Value) (X : List (List Int)) (ga na ca : Nat) (A : List Int) (gb nb cb : Nat) (B : List Int)
    (out : Value) (zs : List Int) (s : Asked) (C : Nat → Prop) (w : World) : Prop where
  st : St I C0 w0 s C w
  rows : Kd.R (Kd.slice 2 (Kd.int .i64)) 24 w w0.heap.size (fun k => ¬ C k ∧ k < h0) u R
  a : RowAt w w0.heap.size h0 C ga na ca A
  b : RowAt w w0.heap.size h0 C gb nb cb B
  next : Kd.R (Kd.slice 2 (Kd.int .i64)) 24 w w0.heap.size (fun k => ¬ C k ∧ h0 ≤ k ∧ some k ≠ out.ownBlock) nx X
  own : Ow w h0 out zs
  off : Off C out
section
variable {O : Oracle} {K : FuncId} {caps : Array Value} {n : Int} {I : Asked → (Nat → Prop) → World → Prop} {C0 C C' : Nat → Prop} {w0 w w' : World} {s s' : Asked} {h0 : Nat} {u nx out : Value} {R X : List (List Int)} {ga na ca gb nb cb : Nat} {A B zs : List Int}
theorem Mg.asked (hA : Asker O K caps n w0.heap.size I) (h : Mg I C0 w0 h0 u R nx X ga na ca A gb nb cb B out zs s C w) (hI : I s' C' w') (hm : Moved C C' w w') : Mg I C0 w0 h0 u R nx X ga na ca A gb nb cb B out zs s' C' w' :=
  ⟨h.st.asked hA hI hm, row_moved h.rows hm, h.a.moved hm, h.b.moved hm, row_moved h.next hm, (ow_moved h.own h.off hm).1, (ow_moved h.own h.off hm).2⟩
/-- Numbers are appended to out. -/
theorem Mg.pushed (hA : Asker O K caps n w0.heap.size I) (h : Mg I C0 w0 h0 u R nx X ga na ca A gb nb cb B out zs s C w) (h00 : w0.heap.size ≤ h0) (ys : List Int) (out' : Value) (hown : w'.ownsRow h0 2 1 out' (zs.length + ys.length) (zs.map (Value.int .i64) ++ ys.map (Value.int .i64))) (hg : w.grownBy w' out.ownBlock)
    (hat : out'.ownBlock = out.ownBlock ∨ ∃ k, out'.ownBlock = some k ∧ w.heap.size ≤ k) (hh : h0 ≤ w.heap.size) : Mg I C0 w0 h0 u R nx X ga na ca A gb nb cb B out' (zs ++ ys) s C w' := by
  have hb : ∀ k, out.ownBlock = some k → h0 ≤ k := fun k hk => (h.own.lt k hk).1
  refine ⟨h.st.grown hA hg (fun k hk => ⟨h.off k hk, Nat.le_trans h00 (hb k hk)⟩), ?_, h.a.grown hg hb, h.b.grown hg hb, ?_, ?_, fun k hk => ?_⟩
  · refine Kd.R_step h.rows (fun k hk hlt => hg.block k hlt (fun e => ?_))
    have := hb k e.symm
    have := hk.2
    omega
  · refine Kd.R_mono (Kd.R_step (Kd.R_bound h.next) (w1 := w') (fun k hk hlt => hg.block k hlt hk.1.2.2)) (fun k hk => ⟨hk.1.1, hk.1.2.1, fun e => ?_⟩)
    rcases hat with h1 | ⟨q, h1, h2⟩
    · exact hk.1.2.2 (by rw [← h1]; exact e)
    · rw [h1] at e
      injection e with e
      have := hk.2.2.1
      omega
  · show w'.ownsRow _ _ _ _ _ _
    rw [List.length_append, List.map_append]
    exact hown
  · rcases hat with h1 | ⟨q, h1, h2⟩
    · exact h.off k (by rw [← h1]; exact hk)
    · rw [h1] at hk
      injection hk with hk
      exact h.st.new (by omega)
theorem Mg.alloc (hA : Asker O K caps n w0.heap.size I) (h : Mg I C0 w0 h0 u R nx X ga na ca A gb nb cb B out zs s C w) (o : Obj) : Mg I C0 w0 h0 u R nx X ga na ca A gb nb cb B out zs s C (w.alloc o) :=
  ⟨h.st.alloc hA o, Kd.R_below h.rows (below_alloc (Below.refl _ _) _), h.a.grown (row := none) (World.grownBy_alloc _ _ _) (by simp), h.b.grown (row := none) (World.grownBy_alloc _ _ _) (by simp), Kd.R_below h.next (below_alloc (Below.refl _ _) _), h.own.alloc o, h.off⟩
theorem Mg.drewN (hA : Asker O K caps n w0.heap.size I) (h : Mg I C0 w0 h0 u R nx X ga na ca A gb nb cb B out zs s C w) (m : Nat) : Mg I C0 w0 h0 u R nx X ga na ca A gb nb cb B out zs s C (w.drewN m) :=
  have hg : w.grownBy (w.drewN m) none := ⟨rfl, rfl, rfl, Nat.le_refl _, fun _ _ _ => rfl⟩
  ⟨h.st.drewN hA m, Kd.R_step h.rows (fun _ _ _ => rfl), h.a.grown hg (by simp), h.b.grown hg (by simp), Kd.R_step h.next (fun _ _ _ => rfl), h.own, h.off⟩
end

/-- What a row of runs holds at a place. -/
theorem run_at {w : World} {base h0 : Nat} {C : Nat → Prop} {g m c : Nat} {R : List (List Int)} (h : Kd.R (Kd.slice 2 (Kd.int .i64)) 24 w base (fun k => ¬ C k ∧ k < h0) (.slice (some ⟨g, 0, none⟩) m c) R) {k : Nat} {L : List Int} (hk : R[k]? = some L) (hL : 1 ≤ L.length) :
    ∃ ga na ca, w.cell? ⟨g, k, none⟩ = some (.slice (some ⟨ga, 0, none⟩) na ca) ∧ RowAt w base h0 C ga na ca L := by
  have hkl := (List.getElem?_eq_some_iff.1 hk).1
  have hm := (Kd.R_reads' h).1
  obtain ⟨cc, _, ⟨v, rfl, hv⟩, hc, _⟩ := Kd.R_elem h [] (k : Int) (by omega) (by omega)
  have hgd : R.getD ((k : Int)).toNat [] = L := by rw [Int.toNat_natCast, List.getD_eq_getElem?_getD, hk]; rfl
  rw [hgd] at hv
  have ho := Kd.own_of_R hv
  obtain ⟨ga, ca, rfl, _, _⟩ := ho.form (by omega)
  have hok := (hv.1 ga rfl).1
  have h2 := hc 0 _ rfl
  have e : Int.toNat (k : Int) * (Kd.slice 2 (Kd.int .i64)).sz + 0 = k := by
    rw [Int.toNat_natCast]
    show k * 1 + 0 = k
    omega
  rw [e] at h2
  exact ⟨ga, L.length, ca, h2, ⟨ho, hok.1, hok.2, rfl⟩⟩

end Go.Proofs.Ytdibbgldclgokaa.PS
