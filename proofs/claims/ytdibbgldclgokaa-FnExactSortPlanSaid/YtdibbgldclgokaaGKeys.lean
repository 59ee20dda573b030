/- What SortKeys of the program comes to. No condition beyond those of the theorems. -/
import Derived.Test.YtdibbgldclgokaaGSort
namespace Go.Proofs.Ytdibbgldclgokaa.PS
open Go.RowKit Go.Proofs.YtdibbgldclgokaaW.PrintWords Go.Proofs.YtdibbgldclgokaaW.PrintLast Go.Proofs.YtdibbgldclgokaaW.PrintMore Go.Proofs.Ytdibbgldclgokaa.SortM
set_option linter.unusedVariables false
set_option linter.unusedSimpArgs false

/-- Keys that answer. -/
def ofKeys (l : List Int) : Oracle := fun _ a b => some (decide (l.getD a.toNat 0 < l.getD b.toNat 0))

def impl_SortKeys.f (l0 : List Int) : Option (List Int × Int) :=
  if (l0.length : Int) > 2000 then some ([], -1) else some ((sort (ofKeys l0) (l0.length : Int)).2.getD [], ((sort (ofKeys l0) (l0.length : Int)).1.length : Int))

theorem enter_any {P : Program} {f : FuncId} {fn : Func} {c : Code} (hf : P.funcs[f]? = some fn) (hname : (fn.name == "runtime.NumGoroutine") = false) (hb : fn.body = some c) (args : Array Value) (w : World) :
    (callFunc f args).run P w = .ok (.enter f args) w := by
  have h1 : fn.name ≠ "runtime.NumGoroutine" := by simpa using hname
  simp [callFunc, hf, h1, hb]

/-- Where the keys and the count lie: the box of the keys in block g, the count in block g + 1. -/
structure KeyInv (A : Option Addr) (n c : Nat) (wS : World) (s : Asked) (C : Nat → Prop) (w : World) : Prop where
  blocks : ∀ k, C k ↔ k = wS.heap.size + 1
  low : ∀ k, k < wS.heap.size → w.heap[k]? = wS.heap[k]?
  box : w.heap[wS.heap.size]? = some (.cells #[.slice A n c] 24)
  cnt : w.heap[wS.heap.size + 1]? = some (.cells #[.int .i64 (s.length : Int)] 2)
theorem cell_of_heap {w w' : World} {a : Addr} (h : w'.heap[a.block]? = w.heap[a.block]?) : w'.cell? a = w.cell? a := by
  unfold World.cell?
  rw [h]
theorem key_at {w wS : World} {A : Option Addr} {n : Nat} {l : List Int} (h : Kd.C (Kd.int .i64) wS A n l) (hlow : ∀ k, k < wS.heap.size → w.heap[k]? = wS.heap[k]?) (i : Int) (h0 : 0 ≤ i) (h1 : i < n) :
    ∃ ad, A = some ad ∧ (ad.add i.toNat).block < wS.heap.size ∧ w.cell? (ad.add i.toNat) = some (.int .i64 (l.getD i.toNat 0)) := by
  obtain ⟨ad, c, e, _, hK, hc⟩ := Kd.C_get h (0 : Int) i h0 h1
  have h2 := hc 0 _ (by rw [show c = [Value.int .i64 (l.getD i.toNat 0)] from hK]; rfl)
  have e2 : i.toNat * (Kd.int .i64).sz + 0 = i.toNat := by show i.toNat * 1 + 0 = i.toNat; omega
  rw [e2] at h2
  have hlt := World.block_lt_of_cell? _ _ h2
  exact ⟨ad, e, hlt, (cell_of_heap (hlow _ hlt)).trans h2⟩
theorem keys_asker {A : Option Addr} {n c b0 : Nat} {l : List Int} {wS : World} (h : Kd.C (Kd.int .i64) wS A n l) (hb : wS.heap.size + 1 < b0) :
    Asker (ofKeys l) 28 #[.pointer (some ⟨wS.heap.size + 1, 0, none⟩), .pointer (some ⟨wS.heap.size, 0, none⟩)] (n : Int) b0 (KeyInv A n c wS) := by
  refine ⟨enter_any Try.func28 (by kernel_rfl) rfl, fun s C w a b hI ha0 han hb0 hbn hle => ?_, fun s C w hI k hk => ?_, fun s C w w' hI hw hs => ?_⟩
  · obtain ⟨hC, hlow, hbox, hcnt⟩ := hI
    obtain ⟨ad, rfl, hl1, hc1⟩ := key_at h hlow a ha0 han
    obtain ⟨_, e, hl2, hc2⟩ := key_at h hlow b hb0 hbn
    obtain rfl := Option.some.inj e
    obtain ⟨m, hm⟩ : ∃ m, s.length = m := ⟨_, rfl⟩
    obtain ⟨g, hg⟩ : ∃ g, wS.heap.size = g := ⟨_, rfl⟩
    rw [hm] at hle hcnt
    rw [hg] at hl1 hl2 hbox hcnt hC
    have HM := Aside0.mk hm
    have hx1 := cell_of_one hbox
    have hx2 := cell_of_one hcnt
    have hx3 := free_of_one hcnt
    have hy1 : (w.setCell ⟨g + 1, 0, none⟩ (.int .i64 ((m : Int) + 1))).cell? ⟨g, 0, none⟩ = some (.slice (some ad) n c) := (cell_of_heap (Below.heap_setCell _ _ _ _ (by show g ≠ g + 1; omega))).trans hx1
    have hy2 : (w.setCell ⟨g + 1, 0, none⟩ (.int .i64 ((m : Int) + 1))).cell? (ad.add a.toNat) = some (.int .i64 (l.getD a.toNat 0)) := (cell_of_heap (Below.heap_setCell _ _ _ _ (by show _ ≠ g + 1; omega))).trans hc1
    have hy3 : (w.setCell ⟨g + 1, 0, none⟩ (.int .i64 ((m : Int) + 1))).cell? (ad.add b.toNat) = some (.int .i64 (l.getD b.toNat 0)) := (cell_of_heap (Below.heap_setCell _ _ _ _ (by show _ ≠ g + 1; omega))).trans hc2
    obtain ⟨x, hx⟩ : ∃ x, l.getD a.toNat 0 = x := ⟨_, rfl⟩
    obtain ⟨y, hy⟩ : ∃ y, l.getD b.toNat 0 = y := ⟨_, rfl⟩
    rw [hx] at hy2
    rw [hy] at hy3
    have HXY := Aside0.mk (show ofKeys l s.length a b = some (decide (x < y)) by unfold ofKeys; rw [hx, hy])
    have HL := Aside0.mk hlow
    have HBX := Aside0.mk hbox
    have HCN := Aside0.mk hcnt
    have HC := Aside0.mk hC
    rw [HXY.out]
    clear hlow hbox hcnt hC hx hy hm hc1 hc2 h e
    go_enter Try.func28, Try.ntmps28
    go_upto_region 2 with fail
    go_quiet (fail)
    go_wp2
    go_ret2
    refine ⟨rfl, C, ⟨fun k => by rw [hg]; exact HC.out k, fun k hk => (Below.heap_setCell w _ _ k (by show k ≠ g + 1; omega)).trans (HL.out k hk), ?_, ?_⟩, ⟨rfl, rfl, rfl, ?_, fun k hk hn => Below.heap_setCell w _ _ k (fun e => hn ((HC.out k).2 e)), fun k hk => .inl hk⟩⟩
    · rw [hg]
      exact (Below.heap_setCell w _ _ g (by show g ≠ g + 1; omega)).trans HBX.out
    · rw [hg, List.length_append, List.length_singleton, HM.out]
      exact one_setCell HCN.out
    · show w.heap.size ≤ (w.setCell _ _).heap.size
      simp
  · rw [(hI.blocks k).1 hk]
    exact (Array.getElem?_eq_some_iff.1 hI.cnt).1
  · have hz : ∀ k, k < b0 → w'.heap[k]? = w.heap[k]? := fun k hk => hw k (.inr hk)
    exact ⟨hI.blocks, fun k hk => (hz k (by omega)).trans (hI.low k hk), (hz _ (by omega)).trans hI.box, (hz _ hb).trans hI.cnt⟩

theorem impl_SortKeys.calls (A0 : Option Addr) (c0 : Nat) (l0 : List Int) (r1 : List Int) (r2 : Int) (w : World) (hr0 : Kd.C (Kd.int .i64) w A0 l0.length l0) (hc0 : l0.length ≤ c0) (h : impl_SortKeys.f l0 = some (r1, r2)) :
    Calls Try.prog 8 #[.slice A0 l0.length c0] w fun e w' => ∃ v1_ : Value, e = .returned (.tuple #[v1_, .int .i64 r2]) ∧ Kd.R (Kd.int .i64) 2 w' w.heap.size (fun _ => True) v1_ r1 ∧ Below w.heap.size w w' := by
  have HR := Aside0.mk hr0
  obtain ⟨n, hn⟩ : ∃ n, l0.length = n := ⟨_, rfl⟩
  have HN := Aside0.mk hn
  rw [hn] at hc0 ⊢
  have HC := Aside0.mk hc0
  have H := Aside0.mk h
  clear hr0 h hc0 hn
  by_cases hc : n > 2000
  · have hr : r1 = [] ∧ r2 = -1 := by
      have h1 := H.out
      unfold impl_SortKeys.f at h1
      rw [if_pos (by have := HN.out; omega)] at h1
      injection h1 with h1
      injection h1 with h2 h3
      exact ⟨h2.symm, h3.symm⟩
    obtain ⟨rfl, rfl⟩ := hr
    go_enter Try.func8, Try.ntmps8
    go_wp2
    go_ret2
    exact ⟨_, rfl, Kd.R_nil _ _ _ _ _, below_alloc (Below.refl _ _) _⟩
  · have hc2 : (n : Int) ≤ 2000 := by omega
    have hr : (sort (ofKeys l0) (n : Int)).2.getD [] = r1 ∧ ((sort (ofKeys l0) (n : Int)).1.length : Int) = r2 := by
      have h1 := H.out
      unfold impl_SortKeys.f at h1
      rw [if_neg (by have := HN.out; omega), HN.out] at h1
      injection h1 with h1
      injection h1 with h2 h3
      exact ⟨h2, h3⟩
    have HR2 := Aside0.mk hr
    have hC2 := HR.out
    rw [HN.out] at hC2
    have HA := Aside0.mk (keys_asker (c := c0) (b0 := ((w.alloc (Obj.cells #[Value.slice A0 n c0] 24)).alloc (Obj.cells #[Value.int IntKind.i64 0] 2)).heap.size) hC2 (by simp))
    have HI := Aside0.mk (show KeyInv A0 n c0 w [] (fun k => k = w.heap.size + 1) ((w.alloc (Obj.cells #[Value.slice A0 n c0] 24)).alloc (Obj.cells #[Value.int IntKind.i64 0] 2)) from by
      refine ⟨fun k => Iff.rfl, fun k hk => ?_, ?_, ?_⟩
      · rw [Below.heap_alloc _ _ k (by simp; omega), Below.heap_alloc _ _ k hk]
      · rw [Below.heap_alloc _ _ _ (by simp)]
        exact heap_alloc_new _ _
      · have h1 := heap_alloc_new (w.alloc (Obj.cells #[Value.slice A0 n c0] 24)) (Obj.cells #[Value.int IntKind.i64 0] 2)
        simpa using h1)
    clear hr hC2 H HR hc
    go_enter Try.func8, Try.ntmps8
    go_wp2_with fail
    refine Calls.mono (ysort_calls n (by omega) _ HA.out _ HI.out) ?_
    rintro e w' ⟨v, C', rfl, hI, hm, hv⟩
    have hct := cell_of_one hI.cnt
    rw [HR2.out.2] at hct
    rw [HR2.out.1] at hv
    have HV := Aside0.mk (Kd.R_mono (Kd.R_lower hv (show w.heap.size ≤ _ by simp; omega)) (ok' := fun _ => True) (fun _ _ => trivial))
    have HB := Aside0.mk (show Below w.heap.size w w' from Below.trans (below_alloc (below_alloc (Below.refl _ _) (Obj.cells #[Value.slice A0 n c0] 24)) (Obj.cells #[Value.int IntKind.i64 0] 2)) ⟨hm.os, hm.tape, hm.output, hm.size, fun k hk => hm.block k (by simp; omega) (show ¬ k = w.heap.size + 1 by omega)⟩)
    clear hI hm hv HA HI HR2
    go_wp2_with fail
    go_quiet (fail)
    go_wp2
    go_ret2
    exact ⟨_, rfl, Kd.R_step HV.out (fun _ _ _ => rfl), HB.out.trans ⟨rfl, rfl, rfl, Nat.le_refl _, fun _ _ => rfl⟩⟩

end Go.Proofs.Ytdibbgldclgokaa.PS
