/- The program's ylay: what it makes of a table of slots that the caller owns; no condition beyond those of the theorems. -/
import Derived.Test.YtohilfkdfcihgaaGSlots
import Derived.OneCell
namespace Go.Proofs.Ytohilfkdfcihgaa.PDi
open Go.RowKit Go.Proofs.YtohilfkdfcihgaaW.PrintWords Go.Proofs.YtohilfkdfcihgaaW.PrintLast Go.Proofs.YtohilfkdfcihgaaW.PrintMore
attribute [local go_sem] max2_int min2_int max_two min_two max_three min_three max_four min_four
set_option linter.unusedVariables false
set_option linter.unusedSimpArgs false
def layStep (place : Int) (T : List Int) (s : Int) : List Int × Bool := if rd T s ≥ 0 then (T, true) else (T.set s.toNat place, false)
theorem nums_set (k : IntKind) (xs : List Int) (j : Nat) (u : Int) : nums k (xs.set j u) = (nums k xs).set j (.int k u) := by
  unfold nums
  rw [List.map_set]
def LayI (n cap base g b1 b2 : Nat) (place : Int) (w1 : World) (T : List Int) (w : World) : Prop :=
  T.length = n ∧ w.ownsRow base 2 1 (.slice (some ⟨g, 0, none⟩) n cap) n (nums .i64 T) ∧ w.heap[b1]? = some (.cells #[.slice (some ⟨g, 0, none⟩) n cap] 22 (0, 0)) ∧ w.heap[b2]? = some (.cells #[.int .i64 place] 2 (0, 0)) ∧ w1.grownBy w (some g)
theorem grown_set {w1 w : World} {g : Nat} (h : w1.grownBy w (some g)) (j : Nat) (u : Value) : w1.grownBy (w.setCell ⟨g, j, none⟩ u) (some g) := by
  obtain ⟨h1, h2, h3, h4, h5⟩ := h
  refine ⟨h1, h2, h3, by simpa using h4, fun k hk hne => ?_⟩
  rw [Below.heap_setCell _ _ _ _ (fun e => hne (by rw [e]))]
  exact h5 k hk hne
set_option maxHeartbeats 1000000 in
set_option maxRecDepth 100000 in
theorem lay_step (n cap base g b1 b2 : Nat) (place : Int) (w1 : World) (hn1 : n ≤ 1000000) (hg1 : g ≠ b1) (hg2 : g ≠ b2) (T : List Int) (s : Int) (w : World) (hs0 : 0 ≤ s) (hs1 : s < n) (hI : LayI n cap base g b1 b2 place w1 T w) :
    Calls Try.prog 73 (#[.int .i64 s] ++ #[.pointer (some ⟨b1, 0, none⟩), .pointer (some ⟨b2, 0, none⟩)]) w fun e w' => e = .returned (.bool (layStep place T s).2) ∧ LayI n cap base g b1 b2 place w1 (layStep place T s).1 w' := by
  obtain ⟨hl, ho, hb1, hb2, hgr⟩ := hI
  have c1 := cell_of_one hb1
  have c2 := cell_of_one hb2
  obtain ⟨j, rfl⟩ := Int.eq_ofNat_of_zero_le hs0
  have hj : j < n := by omega
  have c3 : w.cell? ⟨g, j, none⟩ = some (.int .i64 (rd T j)) := by
    rw [ho.cellAt j (by omega)]
    simp [nums, rd, List.getElem?_eq_getElem (show j < T.length by omega)]
  have f3 := ho.frozenAt j
  by_cases h0 : 0 ≤ rd T j
  · have e0 : layStep place T j = (T, true) := by unfold layStep; rw [if_pos h0]
    rw [e0]
    generalize rd T j = x at *
    clear e0
    show Calls Try.prog 73 #[.int .i64 j, .pointer (some ⟨b1, 0, none⟩), .pointer (some ⟨b2, 0, none⟩)] w _
    have HI : Hid (LayI n cap base g b1 b2 place w1 T w) := Lib.hid ⟨hl, ho, hb1, hb2, hgr⟩
    clear hl ho hb1 hb2 hgr
    go_enter Try.func73, Try.ntmps73
    go_wp2
    go_ret
    exact ⟨rfl, HI.out⟩
  · have e0 : layStep place T j = (T.set j place, false) := by unfold layStep; rw [if_neg h0]; simp
    rw [e0]
    generalize rd T j = x at *
    clear e0
    show Calls Try.prog 73 #[.int .i64 j, .pointer (some ⟨b1, 0, none⟩), .pointer (some ⟨b2, 0, none⟩)] w _
    have HI : Hid (LayI n cap base g b1 b2 place w1 (T.set j place) (w.setCell ⟨g, j, none⟩ (.int .i64 place))) := Lib.hid
      ⟨by rw [List.length_set]; exact hl, by rw [nums_set]; exact (ho.stored j _).1, (Below.heap_setCell _ _ _ _ (Ne.symm hg1)).trans hb1, (Below.heap_setCell _ _ _ _ (Ne.symm hg2)).trans hb2, grown_set hgr j _⟩
    clear hl ho hb1 hb2 hgr
    go_enter Try.func73, Try.ntmps73
    go_wp2
    go_ret
    exact ⟨rfl, HI.out⟩
theorem enter_any {P : Program} {f : FuncId} {fn : Func} {c : Code} (hf : P.funcs[f]? = some fn) (hname : (fn.name == "runtime.NumGoroutine") = false) (hb : fn.body = some c) (args : Array Value) (w : World) :
    (callFunc f args).run P w = .ok (.enter f args) w := by
  have h1 : fn.name ≠ "runtime.NumGoroutine" := by simpa using hname
  simp [callFunc, hf, h1, hb]
theorem cf73 (args : Array Value) (w : World) : (callFunc 73 args).run Try.prog w = .ok (.enter 73 args) w := enter_any Try.func73 (by kernel_rfl) rfl args w
theorem grown_trans {w w1 w2 : World} {row : Option Nat} (h : w.grownBy w1 row) (k : w1.grownBy w2 row) : w.grownBy w2 row :=
  ⟨k.os.trans h.os, k.tape.trans h.tape, k.output.trans h.output, Nat.le_trans h.size k.size, fun i hi hne => (k.block i (Nat.lt_of_lt_of_le hi h.size) hne).trans (h.block i hi hne)⟩
theorem probe_lay_length (place h n : Int) (f : Nat) : ∀ (T : List Int) (s k : Int) (T' : List Int), probe (layStep place) h n f T s k = some T' → T'.length = T.length := by
  induction f with
  | zero => intro T s k T' h; simp [probe] at h
  | succ f ih =>
    intro T s k T' hp
    simp only [probe] at hp
    split at hp
    · rw [ih _ _ _ _ hp]
      unfold layStep
      split <;> simp
    · have := Option.some.inj hp
      rw [← this]
      unfold layStep
      split <;> simp
set_option maxHeartbeats 1000000 in
set_option maxRecDepth 100000 in
theorem ylay_calls (h place : Int) (g cap base fuel : Nat) (T T' : List Int) (w : World) (hn0 : 0 < T.length) (hn1 : T.length ≤ 1000000) (hh0 : 0 ≤ h) (hh1 : h ≤ 18446744073709551615) (hf : fuel ≤ 1000000000)
    (ho : w.ownsRow base 2 1 (.slice (some ⟨g, 0, none⟩) T.length cap) T.length (nums .i64 T)) (hp : probe (layStep place) h T.length fuel T (h % T.length) 5 = some T') :
    Calls Try.prog 58 #[.slice (some ⟨g, 0, none⟩) T.length cap, .int .u64 h, .int .i64 place] w fun e w' => e = .returned (.tuple #[]) ∧ w'.ownsRow base 2 1 (.slice (some ⟨g, 0, none⟩) T.length cap) T.length (nums .i64 T') ∧ w.grownBy w' (some g) := by
  have hmf : ∀ (fn : Fn) (first cap : Array Value) (w : World), (Instr.makeFunc fn first cap).run Try.prog w = .ok (.func fn first cap) w := fun _ _ _ _ => rfl
  have hglt := (ho.lt g rfl).2
  have HO := Aside0.mk ho
  have HP := Aside0.mk hp
  clear ho hp
  go_enter Try.func58, Try.ntmps58
  go_wp2_with fail
  have hb1 : ((w.alloc (.cells #[.slice (some ⟨g, 0, none⟩) T.length cap] 22)).alloc (.cells #[.int .i64 place] 2)).heap[w.heap.size]? = some (.cells #[.slice (some ⟨g, 0, none⟩) T.length cap] 22 (0, 0)) := by
    rw [Below.heap_alloc _ _ _ (by simp)]
    exact heap_alloc_new _ _
  have hb2 : ((w.alloc (.cells #[.slice (some ⟨g, 0, none⟩) T.length cap] 22)).alloc (.cells #[.int .i64 place] 2)).heap[w.heap.size + 1]? = some (.cells #[.int .i64 place] 2 (0, 0)) := by
    have := heap_alloc_new (w.alloc (.cells #[.slice (some ⟨g, 0, none⟩) T.length cap] 22)) (.cells #[.int .i64 place] 2)
    simpa using this
  refine (yslots_calls 73 _ (fun _ => LayI T.length cap base g w.heap.size (w.heap.size + 1) place w) (layStep place) h T.length (by omega) (by omega) cf73 hh0 hh1 (fun _ st s w' h0 h1 hI => lay_step T.length cap base g w.heap.size (w.heap.size + 1) place w hn1 (by omega) (by omega) st s w' h0 h1 hI) fuel hf T T' _ ⟨rfl, (HO.out.alloc _).alloc _, hb1, hb2, ?_⟩ HP.out).mono ?_
  · exact grown_trans (World.grownBy_alloc w _ _) (World.grownBy_alloc _ _ _)
  · rintro e w' ⟨rfl, _, hI⟩
    obtain ⟨hl, ho, _, _, hg⟩ := hI
    have HR := Aside0.mk ho
    have HG := Aside0.mk hg
    clear hl ho hg hb1 hb2
    go_wp2
    go_end0
    exact ⟨rfl, HR.out, HG.out⟩
end Go.Proofs.Ytohilfkdfcihgaa.PDi
