/- The program's yfind, as a Lean function, and that the Go function comes to just that; no condition beyond those of the theorems. -/
import Derived.Test.YtohilfkdfcihgaaGLay
namespace Go.Proofs.Ytohilfkdfcihgaa.PDi
open Go.RowKit Go.Proofs.YtohilfkdfcihgaaW.PrintWords Go.Proofs.YtohilfkdfcihgaaW.PrintLast Go.Proofs.YtohilfkdfcihgaaW.PrintMore
attribute [local go_sem] max2_int min2_int max_two min_two max_three min_three max_four min_four
set_option linter.unusedVariables false
set_option linter.unusedSimpArgs false
def findStep (T : List Int) (E : List S62) (hash key : Int) (st : Int × Int) (s : Int) : (Int × Int) × Bool :=
  if rd T s < 0 then ((st.1, st.2 + 1), false)
  else if (rd_T62 E (rd T s)).f3 = false ∧ (rd_T62 E (rd T s)).f0 = hash ∧ (rd_T62 E (rd T s)).f1 = key then ((rd T s, st.2 + 1), false)
  else ((st.1, st.2 + 1), true)
def FindB (A0 A1 : Option Addr) (n0 c0 n1 c1 : Nat) (live hash key : Int) (b : Nat) (st : Int × Int) (w : World) : Prop :=
  w.heap[b]? = some (.cells #[.slice A0 n0 c0, .slice A1 n1 c1, .int .i64 live] 25 (0, 0)) ∧ w.heap[b + 1]? = some (.cells #[.int .u64 hash] 35 (0, 0)) ∧ w.heap[b + 2]? = some (.cells #[.int .i64 key] 2 (0, 0)) ∧
  w.heap[b + 3]? = some (.cells #[.int .i64 st.1] 2 (0, 0)) ∧ w.heap[b + 4]? = some (.cells #[.int .i64 st.2] 2 (0, 0))
def FindI (A0 A1 : Option Addr) (c0 c1 : Nat) (T : List Int) (E : List S62) (live hash key : Int) (w0 : World) (f : Nat) (st : Int × Int) (w : World) : Prop :=
  FindB A0 A1 T.length c0 E.length c1 live hash key w0.heap.size st w ∧ Below w0.heap.size w0 w ∧ 0 ≤ st.2 ∧ st.2 + f ≤ 2000000000
set_option maxHeartbeats 1000000 in
set_option maxRecDepth 100000 in
theorem find_step (A0 A1 : Option Addr) (c0 c1 : Nat) (T : List Int) (E : List S62) (live hash key : Int) (w0 : World) (hT : T.length ≤ 1000000) (hr0 : Kd.C (Kd.int .i64) w0 A0 T.length T) (hr1 : Kd.C k62 w0 A1 E.length E)
    (hin : ∀ x ∈ T, x < E.length) (st : Int × Int) (s : Int) (w : World) (hs0 : 0 ≤ s) (hs1 : s < (T.length : Int)) (fu : Nat) (hI : FindI A0 A1 c0 c1 T E live hash key w0 (fu + 1) st w) :
    Calls Try.prog 71 (#[.int .i64 s] ++ #[.pointer (some ⟨w0.heap.size + 4, 0, none⟩), .pointer (some ⟨w0.heap.size, 0, none⟩), .pointer (some ⟨w0.heap.size + 1, 0, none⟩), .pointer (some ⟨w0.heap.size + 2, 0, none⟩), .pointer (some ⟨w0.heap.size + 3, 0, none⟩)]) w
      fun e w' => e = .returned (.bool (findStep T E hash key st s).2) ∧ FindI A0 A1 c0 c1 T E live hash key w0 fu (findStep T E hash key st s).1 w' := by
  obtain ⟨⟨hb0, hb1, hb2, hb3, hb4⟩, hB, hl0, hl1⟩ := hI
  obtain ⟨pl, lk⟩ := st
  dsimp only at hb3 hb4 hl0 hl1
  have d0 : w.cell? ⟨w0.heap.size, 0, none⟩ = some (.slice A0 T.length c0) := (blk_cell hb0 0).trans rfl
  have d1 : w.cell? ⟨w0.heap.size, 1, none⟩ = some (.slice A1 E.length c1) := (blk_cell hb0 1).trans rfl
  have d2 := cell_of_one hb1
  have d3 := cell_of_one hb2
  have d4 := cell_of_one hb3
  have d5 := cell_of_one hb4
  have z4 := free_of_one hb3
  have z5 := free_of_one hb4
  have q0 := lt_of_block hb0
  have q1 := lt_of_block hb1
  have q2 := lt_of_block hb2
  have q3 := lt_of_block hb3
  have q4 := lt_of_block hb4
  have hp : rd T s < E.length := hin _ (by
    unfold rd
    rw [List.getD_eq_getElem?_getD, List.getElem?_eq_getElem (show s.toNat < T.length by omega)]
    exact List.getElem_mem _)
  show Calls Try.prog 71 #[.int .i64 s, .pointer (some ⟨w0.heap.size + 4, 0, none⟩), .pointer (some ⟨w0.heap.size, 0, none⟩), .pointer (some ⟨w0.heap.size + 1, 0, none⟩), .pointer (some ⟨w0.heap.size + 2, 0, none⟩), .pointer (some ⟨w0.heap.size + 3, 0, none⟩)] w _
  obtain ⟨j, rfl⟩ := Int.eq_ofNat_of_zero_le hs0
  have hB1 : Below w0.heap.size w0 (w.setCell ⟨w0.heap.size + 4, 0, none⟩ (.int .i64 (lk + 1))) := hB.setCell (by show w0.heap.size ≤ w0.heap.size + 4; omega) _
  have B0 : ∀ k, k ≠ w0.heap.size + 4 → (w.setCell ⟨w0.heap.size + 4, 0, none⟩ (.int .i64 (lk + 1))).heap[k]? = w.heap[k]? := fun k hk => Below.heap_setCell _ _ _ _ hk
  have g0 := (B0 w0.heap.size (by omega)).trans hb0
  have g1 := (B0 (w0.heap.size + 1) (by omega)).trans hb1
  have g2 := (B0 (w0.heap.size + 2) (by omega)).trans hb2
  have g3 := (B0 (w0.heap.size + 3) (by omega)).trans hb3
  have g4 : (w.setCell ⟨w0.heap.size + 4, 0, none⟩ (.int .i64 (lk + 1))).heap[w0.heap.size + 4]? = some (.cells #[.int .i64 (lk + 1)] 2 (0, 0)) := one_setCell hb4
  obtain ⟨ad0, rfl, e00⟩ := Kd.at_int hr0 j hs0 hs1
  rw [Int.toNat_natCast] at e00
  have e0 := pw_cell_below hB1 e00
  clear e00
  by_cases h0 : rd T j < 0
  · have ef : findStep T E hash key (pl, lk) j = ((pl, lk + 1), false) := by unfold findStep; rw [if_pos h0]
    rw [ef]
    clear ef
    generalize rd T j = p at *
    have HI : Hid (FindI (some ad0) A1 c0 c1 T E live hash key w0 fu (pl, lk + 1) (w.setCell ⟨w0.heap.size + 4, 0, none⟩ (.int .i64 (lk + 1)))) := Lib.hid ⟨⟨g0, g1, g2, g3, g4⟩, hB1, by show 0 ≤ lk + 1; omega, by show lk + 1 + (fu : Int) ≤ 2000000000; omega⟩
    clear hb0 hb1 hb2 hb3 hb4 hr0 hr1 hin hB hB1 B0 g0 g1 g2 g3 g4
    go_enter Try.func71, Try.ntmps71
    go_wp2
    go_ret
    exact ⟨rfl, HI.out⟩
  · obtain ⟨ad1, rfl, x0, x1, x2, x3⟩ := at_T62 hr1 (rd T j) (by omega) hp
    have y0 := pw_cell_below hB1 x0
    have y1 := pw_cell_below hB1 x1
    have y2 := pw_cell_below hB1 x2
    have y3 := pw_cell_below hB1 x3
    clear x0 x1 x2 x3
    generalize hq : rd_T62 E (rd T j) = q at *
    generalize hpj : rd T j = p at *
    obtain ⟨m, rfl⟩ := Int.eq_ofNat_of_zero_le (show 0 ≤ p by omega)
    rw [Int.toNat_natCast] at y0 y1 y2 y3
    have HQ := Lib.hid hq
    have HP := Lib.hid hpj
    clear hq hpj
    clear hb0 hb1 hb2 hb3 hb4 hr0 hr1 hin hB B0
    have hbelow : Below w0.heap.size w0 ((w.setCell ⟨w0.heap.size + 4, 0, none⟩ (.int .i64 (lk + 1))).alloc (.cells #[.int .u64 q.f0, .int .i64 q.f1, .int .i64 q.f2, .bool q.f3] 62)) := hB1.alloc (by simp; omega) _
    have galloc : ∀ k o, (w.setCell ⟨w0.heap.size + 4, 0, none⟩ (.int .i64 (lk + 1))).heap[k]? = some o → ((w.setCell ⟨w0.heap.size + 4, 0, none⟩ (.int .i64 (lk + 1))).alloc (.cells #[.int .u64 q.f0, .int .i64 q.f1, .int .i64 q.f2, .bool q.f3] 62)).heap[k]? = some o := fun k o ho => (Below.heap_alloc _ _ _ ((Array.getElem?_eq_some_iff.1 ho).1)).trans ho
    have HGo : Hid (FindI (some ad0) (some ad1) c0 c1 T E live hash key w0 fu (pl, lk + 1) ((w.setCell ⟨w0.heap.size + 4, 0, none⟩ (.int .i64 (lk + 1))).alloc (.cells #[.int .u64 q.f0, .int .i64 q.f1, .int .i64 q.f2, .bool q.f3] 62))) := Lib.hid ⟨⟨galloc _ _ g0, galloc _ _ g1, galloc _ _ g2, galloc _ _ g3, galloc _ _ g4⟩, hbelow, by show 0 ≤ lk + 1; omega, by show lk + 1 + (fu : Int) ≤ 2000000000; omega⟩
    have W2B : Below w0.heap.size w0 ((w.setCell ⟨w0.heap.size + 4, 0, none⟩ (.int .i64 (lk + 1))).setCell ⟨w0.heap.size + 3, 0, none⟩ (.int .i64 m)) := hB1.setCell (by show w0.heap.size ≤ w0.heap.size + 3; omega) _
    have gs : ∀ k o, k ≠ w0.heap.size + 3 → (w.setCell ⟨w0.heap.size + 4, 0, none⟩ (.int .i64 (lk + 1))).heap[k]? = some o → (((w.setCell ⟨w0.heap.size + 4, 0, none⟩ (.int .i64 (lk + 1))).setCell ⟨w0.heap.size + 3, 0, none⟩ (.int .i64 m)).alloc (.cells #[.int .u64 q.f0, .int .i64 q.f1, .int .i64 q.f2, .bool q.f3] 62)).heap[k]? = some o := fun k o hk ho => by
      have h1 : ((w.setCell ⟨w0.heap.size + 4, 0, none⟩ (.int .i64 (lk + 1))).setCell ⟨w0.heap.size + 3, 0, none⟩ (.int .i64 m)).heap[k]? = some o := (Below.heap_setCell _ _ _ _ hk).trans ho
      exact (Below.heap_alloc _ _ _ ((Array.getElem?_eq_some_iff.1 h1).1)).trans h1
    have HSt : Hid (FindI (some ad0) (some ad1) c0 c1 T E live hash key w0 fu ((m : Int), lk + 1) (((w.setCell ⟨w0.heap.size + 4, 0, none⟩ (.int .i64 (lk + 1))).setCell ⟨w0.heap.size + 3, 0, none⟩ (.int .i64 m)).alloc (.cells #[.int .u64 q.f0, .int .i64 q.f1, .int .i64 q.f2, .bool q.f3] 62))) := Lib.hid
      ⟨⟨gs _ _ (by omega) g0, gs _ _ (by omega) g1, gs _ _ (by omega) g2, (Below.heap_alloc _ _ _ ((Array.getElem?_eq_some_iff.1 (one_setCell (u := .int .i64 m) g3)).1)).trans (one_setCell g3), gs _ _ (by omega) g4⟩, W2B.alloc (by simp; omega) _, by show 0 ≤ lk + 1; omega, by show lk + 1 + (fu : Int) ≤ 2000000000; omega⟩
    clear gs W2B
    clear hbelow galloc g0 g1 g2 g3 g4 hB1
    have hgo : (¬ (q.f3 = false ∧ q.f0 = hash ∧ q.f1 = key)) → findStep T E hash key (pl, lk) j = ((pl, lk + 1), true) := fun hn => by
      unfold findStep
      rw [HP.out, if_neg (by omega), HQ.out, if_neg hn]
    have hst : (q.f3 = false ∧ q.f0 = hash ∧ q.f1 = key) → findStep T E hash key (pl, lk) j = (((m : Int), lk + 1), false) := fun hn => by
      unfold findStep
      rw [HP.out, if_neg (by omega), HQ.out, if_pos hn]
    by_cases t3 : q.f3 = true
    · rw [hgo (by rw [t3]; simp)]
      clear hgo hst HSt
      go_enter Try.func71, Try.ntmps71
      go_wp2
      go_ret
      have HF := HGo.out
      rw [t3] at HF
      exact ⟨rfl, HF⟩
    · have t3b : q.f3 = false := by simpa using t3
      by_cases t0 : q.f0 = hash
      · by_cases t1 : q.f1 = key
        · rw [hst ⟨t3b, t0, t1⟩]
          have b0 : (q.f0 == hash) = true := beq_iff_eq.2 t0
          have b1 : (q.f1 == key) = true := beq_iff_eq.2 t1
          clear hgo hst HGo t0 t1
          have HF := HSt.out
          rw [t3b] at HF
          have HG := Lib.hid HF
          clear HF HSt t3b
          go_enter Try.func71, Try.ntmps71
          go_wp2
          go_ret
          exact ⟨rfl, HG.out⟩
        · rw [hgo (fun h => t1 h.2.2)]
          have b0 : (q.f0 == hash) = true := beq_iff_eq.2 t0
          have b1 : (q.f1 == key) = false := beq_eq_false_iff_ne.2 t1
          clear hgo hst HSt t0 t1
          have HF := HGo.out
          rw [t3b] at HF
          have HG := Lib.hid HF
          clear HF HGo t3b
          go_enter Try.func71, Try.ntmps71
          go_wp2
          go_ret
          exact ⟨rfl, HG.out⟩
      · rw [hgo (fun h => t0 h.2.1)]
        have b0 : (q.f0 == hash) = false := beq_eq_false_iff_ne.2 t0
        clear hgo hst HSt t0
        have HF := HGo.out
        rw [t3b] at HF
        have HG := Lib.hid HF
        clear HF HGo t3b
        go_enter Try.func71, Try.ntmps71
        go_wp2
        go_ret
        exact ⟨rfl, HG.out⟩
theorem cf71 (args : Array Value) (w : World) : (callFunc 71 args).run Try.prog w = .ok (.enter 71 args) w := enter_any Try.func71 (by kernel_rfl) rfl args w
def impl_yfind.f (T : List Int) (E : List S62) (live hash key : Int) : Option (Int × Int) :=
  if 0 < T.length ∧ T.length ≤ 1000000 ∧ 0 ≤ hash ∧ hash ≤ 18446744073709551615 ∧ ∀ x ∈ T, x < E.length then probe (findStep T E hash key) hash T.length 1000000 (-1, 0) (hash % T.length) 5 else none
set_option maxHeartbeats 1000000 in
set_option maxRecDepth 100000 in
theorem impl_yfind.calls (A0_0 : Option Addr) (c0_0 : Nat) (l0_0 : List Int) (A0_1 : Option Addr) (c0_1 : Nat) (l0_1 : List S62) (a0_2 a1 a2 : Int) (r1 r2 : Int) (w : World) (hr0_0 : Kd.C (Kd.int .i64) w A0_0 l0_0.length l0_0) (hc0_0 : l0_0.length ≤ c0_0) (hr0_1 : Kd.C k62 w A0_1 l0_1.length l0_1) (hc0_1 : l0_1.length ≤ c0_1)
    (h : impl_yfind.f l0_0 l0_1 a0_2 a1 a2 = some (r1, r2)) :
    Calls Try.prog 50 #[.agg #[.slice A0_0 l0_0.length c0_0, .slice A0_1 l0_1.length c0_1, .int .i64 a0_2], .int .u64 a1, .int .i64 a2] w fun e w' => e = .returned (.tuple #[.int .i64 r1, .int .i64 r2]) ∧ Below w.heap.size w w' := by
  unfold impl_yfind.f at h
  split at h
  · rename_i hc
    obtain ⟨q1, q2, q3, q4, q5⟩ := hc
    have hmf : ∀ (fn : Fn) (first cap : Array Value) (w : World), (Instr.makeFunc fn first cap).run Try.prog w = .ok (.func fn first cap) w := fun _ _ _ _ => rfl
    have HP := Aside0.mk h
    have HIN := Aside0.mk q5
    have HR0 := Aside0.mk hr0_0
    have HR1 := Aside0.mk hr0_1
    clear h q5 hr0_0 hr0_1
    go_enter Try.func50, Try.ntmps50
    go_wp2_with fail
    have hI0 : FindI A0_0 A0_1 c0_0 c0_1 l0_0 l0_1 a0_2 a1 a2 w 1000000 (-1, 0) (((((w.alloc (.cells #[.slice A0_0 l0_0.length c0_0, .slice A0_1 l0_1.length c0_1, .int .i64 a0_2] 25)).alloc (.cells #[.int .u64 a1] 35)).alloc (.cells #[.int .i64 a2] 2)).alloc (.cells #[.int .i64 (-1)] 2)).alloc (.cells #[.int .i64 0] 2)) := by
      refine ⟨⟨?_, ?_, ?_, ?_, ?_⟩, ?_, by show (0 : Int) ≤ 0; omega, by show (0 : Int) + 1000000 ≤ 2000000000; omega⟩
      · rw [Below.heap_alloc _ _ _ (by simp <;> omega), Below.heap_alloc _ _ _ (by simp <;> omega), Below.heap_alloc _ _ _ (by simp <;> omega), Below.heap_alloc _ _ _ (by simp)]
        exact heap_alloc_new _ _
      · rw [Below.heap_alloc _ _ _ (by simp <;> omega), Below.heap_alloc _ _ _ (by simp <;> omega), Below.heap_alloc _ _ _ (by simp)]
        simpa using heap_alloc_new (w.alloc (.cells #[.slice A0_0 l0_0.length c0_0, .slice A0_1 l0_1.length c0_1, .int .i64 a0_2] 25)) (.cells #[.int .u64 a1] 35)
      · rw [Below.heap_alloc _ _ _ (by simp <;> omega), Below.heap_alloc _ _ _ (by simp)]
        simpa using heap_alloc_new ((w.alloc (.cells #[.slice A0_0 l0_0.length c0_0, .slice A0_1 l0_1.length c0_1, .int .i64 a0_2] 25)).alloc (.cells #[.int .u64 a1] 35)) (.cells #[.int .i64 a2] 2)
      · rw [Below.heap_alloc _ _ _ (by simp)]
        simpa using heap_alloc_new (((w.alloc (.cells #[.slice A0_0 l0_0.length c0_0, .slice A0_1 l0_1.length c0_1, .int .i64 a0_2] 25)).alloc (.cells #[.int .u64 a1] 35)).alloc (.cells #[.int .i64 a2] 2)) (.cells #[.int .i64 (-1)] 2)
      · simpa using heap_alloc_new ((((w.alloc (.cells #[.slice A0_0 l0_0.length c0_0, .slice A0_1 l0_1.length c0_1, .int .i64 a0_2] 25)).alloc (.cells #[.int .u64 a1] 35)).alloc (.cells #[.int .i64 a2] 2)).alloc (.cells #[.int .i64 (-1)] 2)) (.cells #[.int .i64 0] 2)
      · repeat (first | exact Below.refl _ _ | apply below_alloc)
    refine (yslots_calls 71 _ (fun f => FindI A0_0 A0_1 c0_0 c0_1 l0_0 l0_1 a0_2 a1 a2 w f) (findStep l0_0 l0_1 a1 a2) a1 l0_0.length (by omega) (by omega) cf71 q3 q4 (fun fu st s w' h0 h1 hI => find_step A0_0 A0_1 c0_0 c0_1 l0_0 l0_1 a0_2 a1 a2 w q2 HR0.out HR1.out HIN.out st s w' h0 h1 fu hI) 1000000 (by omega) (-1, 0) (r1, r2) _ hI0 HP.out).mono ?_
    rintro e w' ⟨rfl, f, ⟨⟨hb0, hb1, hb2, hb3, hb4⟩, hB, _, _⟩⟩
    have c3 := cell_of_one hb3
    have c4 := cell_of_one hb4
    have HB := Aside0.mk hB
    clear hb0 hb1 hb2 hb3 hb4 hB hI0
    go_wp2
    go_quiet (fail)
    go_wp2
    go_ret2
    exact ⟨rfl, pw_below_drewN HB.out _⟩
  · simp at h
end Go.Proofs.Ytohilfkdfcihgaa.PDi
