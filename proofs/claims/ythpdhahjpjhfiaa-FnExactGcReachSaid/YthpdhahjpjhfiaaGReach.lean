/- What GcReach of the program comes to. No condition beyond those of the theorems. -/
import Derived.Test.YthpdhahjpjhfiaaPRx0
import Derived.Test.YthpdhahjpjhfiaaGMapG
import Derived.Test.YthpdhahjpjhfiaaDfs
import Derived.BigQuiet
namespace Go.Proofs.Ythpdhahjpjhfiaa.PR
open Go.RowKit Go.Proofs.YthpdhahjpjhfiaaW.PrintWords Go.Proofs.YthpdhahjpjhfiaaW.PrintLast Go.Proofs.YthpdhahjpjhfiaaW.PrintMore Go.Proofs.Ythpdhahjpjhfiaa.MapG Go.Proofs.Ythpdhahjpjhfiaa.Dfs
set_option linter.unusedVariables false
set_option linter.unusedSimpArgs false

theorem zero23 (w : World) : (zeroValue 23).run Try.prog w = .ok (.slice none 0 0) w := by kernel_rfl
theorem k56 : RowKind Try.prog 56 2 23 := ⟨Try.underlying56, Try.underlying2, zero23⟩

/-- The edges that are told. -/
def edges (l : List S39) : List (Int × Int) := l.map (fun h => (h.f1, h.f2))
/-- Is x one of 1 to n? -/
def inR (n x : Int) : Bool := decide (1 ≤ x) && decide (x ≤ n)

theorem rd39 (l : List S39) (i : Nat) (h : i < l.length) : rd_T39 l (i : Int) = l[i] := by simp [rd_T39, List.getD_eq_getElem?_getD, List.getElem?_eq_getElem h]

set_option maxHeartbeats 1000000 in
set_option maxRecDepth 1000000 in
theorem in28 (x n : Int) (p : Addr) (w : World) (hc : w.cell? p = some (.int .i64 n)) : Calls Try.prog 28 #[.int .i64 x, .pointer (some p)] w fun e w' => e = .returned (.bool (inR n x)) ∧ w' = w := by
  by_cases h1 : x ≥ 1
  · by_cases h2 : x ≤ n
    · have HR : Aside0 (inR n x = true) := ⟨by simp [inR, h2]; omega⟩
      go_enter Try.func28, Try.ntmps28
      go_wp2
      go_ret
      exact ⟨by rw [HR.out]; rfl, rfl⟩
    · have HR : Aside0 (inR n x = false) := ⟨by simp [inR, h2]⟩
      go_enter Try.func28, Try.ntmps28
      go_wp2
      go_ret
      exact ⟨by rw [HR.out]; rfl, rfl⟩
  · have HR : Aside0 (inR n x = false) := ⟨by simp [inR]; omega⟩
    go_enter Try.func28, Try.ntmps28
    go_wp2
    go_ret
    exact ⟨by rw [HR.out]; rfl, rfl⟩

def impl_GcReach.f (n : Int) (l1 : List S39) (l2 : List Int) : Option (List Int) :=
  if n < 0 ∨ 2000 < n then some [] else
  if l1.length ≤ 1000000000000 ∧ l2.length ≤ 1000000000000 then
    if ∀ h ∈ l1, inR n h.f1 = true ∧ inR n h.f2 = true then
      if ∀ x ∈ l2, inR n x = true then
        (dfs (edges l1) (l2.length + l1.length) (List.replicate (n.toNat + 1) false) l2.reverse).map (fun s => outs s n.toNat)
      else some []
    else some []
  else none

theorem toList_made_bool (n : Nat) : (madeCells (Value.bool false).cells (n * 1)).toList = (List.replicate n false).map Value.bool := by
  rw [Nat.mul_one]
  have : (Value.bool false).cells = #[.bool false] := rfl
  rw [this, toList_madeCells_one]
  simp

/-- The look-up at a key, wherever the statement's draw has come to. -/
theorem map_look {W : World} {g : Nat} {V : Int → Value} (y0 y1 y2 : Int) (hV : MapFn (g + 1) V W) :
    (Instr.lookup 56 (.map (some (g + 1))) (.int .i64 y1) false).run Try.prog (W.alloc (.cells #[.int .i64 y0, .int .i64 y1, .int .i64 y2] 39)).drew = .ok (V y1) (W.alloc (.cells #[.int .i64 y0, .int .i64 y1, .int .i64 y2] 39)).drew ∧
    (Instr.lookup 56 (.map (some (g + 1))) (.int .i64 y1) false).run Try.prog (((W.alloc (.cells #[.int .i64 y0, .int .i64 y1, .int .i64 y2] 39)).alloc (.cells #[.int .i64 y2] 2)).drew) = .ok (V y1) (((W.alloc (.cells #[.int .i64 y0, .int .i64 y1, .int .i64 y2] 39)).alloc (.cells #[.int .i64 y2] 2)).drew) :=
  ⟨lookup_run k56 ((hV.alloc _).drewN 1) y1, lookup_run k56 (((hV.alloc _).alloc _).drewN 1) y1⟩

theorem map_news (W : World) (y0 y1 y2 : Int) : ∀ j u, [Value.int .i64 y2][j]? = some u → (((W.alloc (.cells #[.int .i64 y0, .int .i64 y1, .int .i64 y2] 39)).alloc (.cells #[.int .i64 y2] 2)).drew).cell? ((⟨W.heap.size + 1, 0, none⟩ : Addr).add j) = some u := by
  have h := cell_one_new (W.alloc (.cells #[.int .i64 y0, .int .i64 y1, .int .i64 y2] 39)) (.int .i64 y2) 2
  have e : (W.alloc (.cells #[.int .i64 y0, .int .i64 y1, .int .i64 y2] 39)).heap.size = W.heap.size + 1 := by simp
  rw [e] at h
  exact h

/-- Behind the append and the store at a key. -/
theorem map_step {W w : World} {g : Nat} {V : Int → Value} {E : List (Int × Int)} {E2 : List (Int × Int)} {n : Int} (y0 y1 y2 : Int) (hV : MapFn (g + 1) V W) (hO : ∀ k, Ow 2 W (g + 2) (V k) (nextOf E k)) (hD : ∀ j k, j ≠ k → (V j).ownBlock = none ∨ (V j).ownBlock ≠ (V k).ownBlock) (hlt : g + 1 < g + 2) (hz : g + 2 ≤ W.heap.size)
    (hE : E2 = E ++ [(y1, y2)]) (hB : Below g w W) (hcn : W.cell? ⟨g, 0, none⟩ = some (.int .i64 n)) (gq cap : Nat) (w5 : World)
    (hown : w5.ownsRow (g + 2) 2 1 (.slice (some ⟨gq, 0, none⟩) ((nextOf E y1).length + 1) cap) ((nextOf E y1).length + 1) ((nextOf E y1).map (Value.int .i64) ++ [.int .i64 y2]))
    (hgrow : (((W.alloc (.cells #[.int .i64 y0, .int .i64 y1, .int .i64 y2] 39)).alloc (.cells #[.int .i64 y2] 2)).drew).grownBy w5 (V y1).ownBlock) (hat : (V y1).ownBlock = some gq ∨ gq = W.heap.size + 2) :
    ∃ w6, (Instr.mapUpdate 56 (.map (some (g + 1))) (.int .i64 y1) (.slice (some ⟨gq, 0, none⟩) ((nextOf E y1).length + 1) cap)).run Try.prog w5 = .ok () w6 ∧
      w5.cell? ⟨W.heap.size, 1, none⟩ = some (.int .i64 y1) ∧ w5.cell? ⟨W.heap.size, 2, none⟩ = some (.int .i64 y2) ∧ w6.cell? ⟨W.heap.size, 1, none⟩ = some (.int .i64 y1) ∧ w6.cell? ⟨W.heap.size, 2, none⟩ = some (.int .i64 y2) ∧
      Aside0 (Groups (g + 2) 2 (g + 1) (nextOf E2) w6 ∧ Below g w w6 ∧ w6.cell? ⟨g, 0, none⟩ = some (.int .i64 n) ∧ g + 2 ≤ w6.heap.size) := by
  have hne : ∀ q, q < g + 2 ∨ W.heap.size ≤ q → some q ≠ (V y1).ownBlock := fun q hq e => by
    have := (hO y1).lt q e.symm
    omega
  have hg0 : W.grownBy (((W.alloc (.cells #[.int .i64 y0, .int .i64 y1, .int .i64 y2] 39)).alloc (.cells #[.int .i64 y2] 2)).drew) (V y1).ownBlock :=
    ((World.grownBy_alloc W _ _).trans (World.grownBy_alloc _ _ _)).trans ⟨rfl, rfl, rfl, Nat.le_refl _, fun _ _ _ => rfl⟩
  have hg1 := hg0.trans hgrow
  obtain ⟨w6, hup, hM6, hg6, hs6⟩ := update_run k56 (hV.grown hg1 (hne _ (.inl (by omega)))) y1 (.slice (some ⟨gq, 0, none⟩) ((nextOf E y1).length + 1) cap)
  have hc1 : w5.cell? ⟨W.heap.size, 1, none⟩ = some (.int .i64 y1) := by
    rw [hgrow.cell_far ⟨W.heap.size, 1, none⟩ (by simp; omega) (hne W.heap.size (.inr (Nat.le_refl _)))]; simp
  have hc2 : w5.cell? ⟨W.heap.size, 2, none⟩ = some (.int .i64 y2) := by
    rw [hgrow.cell_far ⟨W.heap.size, 2, none⟩ (by simp; omega) (hne W.heap.size (.inr (Nat.le_refl _)))]; simp
  have hc0 : w5.cell? ⟨g, 0, none⟩ = some (.int .i64 n) := by
    rw [hg1.cell_far ⟨g, 0, none⟩ (by show g < _; omega) (hne g (.inl (by omega)))]; exact hcn
  have hs5 := hg1.size
  have hlt5 : W.heap.size < w5.heap.size := Nat.lt_of_lt_of_le (by simp; omega) hgrow.size
  have hB5 : Below g w w5 := hB.grown hg1 (by omega) (fun q hq => by have := (hO y1).lt q hq; omega)
  refine ⟨w6, hup, hc1, hc2, ?_, ?_, ⟨?_, ?_, ?_, ?_⟩⟩
  · rw [hg6.cell_far ⟨W.heap.size, 1, none⟩ hlt5 (by intro e; injection e with e; simp at e; omega)]; exact hc1
  · rw [hg6.cell_far ⟨W.heap.size, 2, none⟩ hlt5 (by intro e; injection e with e; simp at e; omega)]; exact hc2
  · have h1 : Ow 2 w5 (g + 2) (.slice (some ⟨gq, 0, none⟩) ((nextOf E y1).length + 1) cap) (nextOf E y1 ++ [y2]) := by
      show w5.ownsRow _ _ _ _ _ _
      simpa using hown
    have h2 := Groups.stored (b := g + 1) hO hD hlt hg1 h1 (by
      rcases hat with h | h
      · exact .inl h.symm
      · exact .inr ⟨gq, rfl, by omega⟩) hg6 hM6
    have h3 : (fun k => if k = y1 then nextOf E y1 ++ [y2] else nextOf E k) = nextOf E2 := by
      funext k
      rw [hE, nextOf_snoc]
      by_cases hk : k = y1
      · rw [if_pos hk, if_pos hk, hk]
      · rw [if_neg hk, if_neg hk]
    rw [h3] at h2
    exact h2
  · exact hB5.grown hg6 (by omega) (fun q hq => by injection hq with hq; omega)
  · rw [hg6.cell_far ⟨g, 0, none⟩ (by show g < _; omega) (by intro e; injection e with e; simp at e)]; exact hc0
  · omega

theorem rdI (l : List Int) (i : Nat) (h : i < l.length) : rd l (i : Int) = l[i] := by simp [rd, List.getElem?_eq_getElem h]

/-- Behind an append of one number onto a row of the call's own. -/
theorem ow_push {a W : World} {B B' : Nat} {v : Value} {zs : List Int} {x : Int} (hBB : B' ≤ B) (hT : Ow 2 W B v zs) (hBj : Below B' a W) (hz : B' ≤ W.heap.size) (v' : Value) (w5 : World)
    (hown : w5.ownsRow B 2 1 v' (zs.length + 1) (zs.map (Value.int .i64) ++ [.int .i64 x])) (hgrow : (W.alloc (.cells #[.int .i64 x] 2)).grownBy w5 v.ownBlock) :
    Ow 2 w5 B v' (zs ++ [x]) ∧ Below B' a w5 ∧ B' ≤ w5.heap.size := by
  have hg := (World.grownBy_alloc W (.cells #[.int .i64 x] 2) v.ownBlock).trans hgrow
  refine ⟨?_, hBj.grown hg hz (fun q hq => by have := (hT.lt q hq).1; omega), Nat.le_trans hz hg.size⟩
  show w5.ownsRow _ _ _ _ _ _
  simpa using hown

theorem edges_ok {l : List S39} {N : Nat} (h : ∀ h ∈ l, inR (N : Int) h.f1 = true ∧ inR (N : Int) h.f2 = true) : ∀ p ∈ edges l, (1 ≤ p.1 ∧ p.1 ≤ (N : Int)) ∧ 1 ≤ p.2 ∧ p.2 ≤ (N : Int) := by
  intro p hp
  unfold edges at hp
  obtain ⟨q, hq, rfl⟩ := List.mem_map.1 hp
  have := h q hq
  simp [inR] at this
  exact this
theorem ow_shape {w : World} {base : Nat} {v : Value} {zs : List Int} (h : Ow 2 w base v zs) : ∃ a c, v = .slice a zs.length c := by
  rcases h.2 with ⟨rfl, h0⟩ | ⟨g, cap, cur, rfl, _⟩
  · exact ⟨none, 0, by rw [h0]⟩
  · exact ⟨_, _, rfl⟩
/-- The top of the stack, and the stack without it. -/
theorem pop_facts {w : World} {base m : Nat} {v : Value} {x : Int} {r : List Int} (hm : r.length = m) (h : Ow 2 w base v (x :: r).reverse) :
    ∃ g cap, v = .slice (some ⟨g, 0, none⟩) (m + 1) cap ∧ base ≤ g ∧ g < w.heap.size ∧ m + 1 ≤ cap ∧ w.cell? ⟨g, m, none⟩ = some (.int .i64 x) ∧ w.ownsRow base 2 1 (.slice (some ⟨g, 0, none⟩) m cap) m (r.reverse.map (Value.int .i64)) := by
  subst hm
  have h1 : w.ownsRow base 2 1 v (r.length + 1) (r.reverse.map (Value.int .i64) ++ [.int .i64 x]) := by
    have h2 := h
    unfold Ow at h2
    rw [List.reverse_cons, List.map_append, List.length_append, List.length_reverse] at h2
    exact h2
  obtain ⟨g, cap, rfl, hb, hl⟩ := h1.form (by omega)
  have hcap : r.length + 1 ≤ cap := by
    rcases h1.2 with ⟨h2, _⟩ | ⟨g', cap', cur, h2, _, _, h3, _⟩
    · cases h2
    · cases h2; exact h3
  refine ⟨g, cap, rfl, hb, hl, hcap, ?_, ownsRow_pop (by simp) h1⟩
  rw [h1.cellAt r.length (by omega), List.getElem?_append_right (by simp)]
  simp

/-- Where a row's own block is kept, the row is kept. -/
theorem row_below {w w' : World} {B gs : Nat} {base : Nat} {e : TypeId} {n cap : Nat} {xs : List Value} (hb : Below B w w') (hg : gs < B) (h : w.ownsRow base e 1 (.slice (some ⟨gs, 0, none⟩) n cap) n xs) : w'.ownsRow base e 1 (.slice (some ⟨gs, 0, none⟩) n cap) n xs := by
  obtain ⟨h1, h2⟩ := h
  refine ⟨h1, ?_⟩
  rcases h2 with ⟨h2, _⟩ | ⟨g, cap, cur, a1, a2, a3, a4⟩
  · cases h2
  · cases a1
    exact .inr ⟨_, _, cur, rfl, a2, (hb.block _ hg).trans a3, a4⟩

set_option maxHeartbeats 2000000 in
set_option maxRecDepth 1000000 in
theorem impl_GcReach.calls (a0 : Int) (A1 : Option Addr) (c1 : Nat) (l1 : List (S39)) (A2 : Option Addr) (c2 : Nat) (l2 : List Int) (r : List Int) (w : World) (hr1 : Kd.C k39 w A1 l1.length l1) (hc1 : l1.length ≤ c1) (hr2 : Kd.C (Kd.int .i64) w A2 l2.length l2) (hc2 : l2.length ≤ c2) (h : impl_GcReach.f a0 l1 l2 = some r) :
    Calls Try.prog 11 #[.int .i64 a0, .slice A1 l1.length c1, .slice A2 l2.length c2] w fun e w' => ∃ v0_ : Value, e = .returned (v0_) ∧ Kd.R (Kd.int .i64) 2 w' w.heap.size (fun _ => True) v0_ r ∧ Below w.heap.size w w' := by
  have hmm := @run_makeMap Try.prog
  have hmf : ∀ (fn : Fn) (first cap : Array Value) (w : World), (Instr.makeFunc fn first cap).run Try.prog w = .ok (.func fn first cap) w := fun _ _ _ _ => rfl
  unfold impl_GcReach.f at h
  have HC1 := Aside0.mk hr1
  have HC2 := Aside0.mk hr2
  clear hr1 hr2
  by_cases hb : a0 < 0 ∨ 2000 < a0
  · rw [if_pos hb] at h
    obtain rfl := Option.some.inj h
    clear h
    have HB := Aside0.mk (below_alloc (Below.refl w.heap.size w) (.cells #[.int .i64 a0] 2))
    by_cases h0 : a0 < 0
    · go_enter Try.func11, Try.ntmps11
      go_wp2
      go_ret
      exact ⟨_, rfl, Kd.R_nil _ _ _ _ _, HB.out⟩
    · have h1 : a0 > 2000 := by omega
      go_enter Try.func11, Try.ntmps11
      go_wp2
      go_ret
      exact ⟨_, rfl, Kd.R_nil _ _ _ _ _, HB.out⟩
  rw [if_neg hb] at h
  split at h
  case isFalse => cases h
  rename_i hlen
  have h0 : ¬ a0 < 0 := fun e => hb (.inl e)
  have h2000 : ¬ a0 > 2000 := fun e => hb (.inr e)
  have H := Aside0.mk h
  clear h hb
  obtain ⟨hlen1, hlen2⟩ := hlen
  obtain ⟨N, rfl⟩ : ∃ N : Nat, a0 = N := ⟨a0.toNat, by omega⟩
  have hN : N ≤ 2000 := by omega
  rw [Int.toNat_natCast] at H
  obtain ⟨n1, hn1⟩ : ∃ n, l1.length = n := ⟨_, rfl⟩
  obtain ⟨n2, hn2⟩ : ∃ n, l2.length = n := ⟨_, rfl⟩
  have HN1 := Aside0.mk hn1
  have HN2 := Aside0.mk hn2
  rw [hn1] at hlen1 hc1 HC1 H ⊢
  rw [hn2] at hlen2 hc2 HC2 H ⊢
  clear hn1 hn2
  go_enter Try.func11, Try.ntmps11
  go_wp2_with fail
  generalize hg : w.heap.size = g at *
  have HG := Aside0.mk hg
  have HM0 := Aside0.mk (show Groups (g + 2) 2 (g + 1) (nextOf (edges (l1.take 0))) ((w.alloc (.cells #[.int .i64 (N : Int)] 2)).alloc (.map #[] 0)) by
    have := Groups.fresh (w.alloc (.cells #[.int .i64 (N : Int)] 2)) 2
    simp only [World.size_alloc, hg] at this
    rw [show nextOf (edges (l1.take 0)) = fun _ => [] by funext x; simp [edges, nextOf]]
    exact this)
  have HB0 := Aside0.mk (show Below g w ((w.alloc (.cells #[.int .i64 (N : Int)] 2)).alloc (.map #[] 0)) by rw [← hg]; exact below_alloc (below_alloc (Below.refl _ _) _) _)
  have hz0 : g + 2 ≤ ((w.alloc (.cells #[.int .i64 (N : Int)] 2)).alloc (.map #[] 0)).heap.size := by simp [hg]
  have hcn : ((w.alloc (.cells #[.int .i64 (N : Int)] 2)).alloc (.map #[] 0)).cell? ⟨g, 0, none⟩ = some (.int .i64 (N : Int)) := by subst hg; simp
  generalize (w.alloc (.cells #[.int .i64 (N : Int)] 2)).alloc (.map #[] 0) = w1 at *
  clear hg hmm
  go_loopg [28] n1 (fun kq v28 w' => ∃ i : Nat, v28 = .int .i64 i ∧ i + kq = n1 ∧ Aside0 (Groups (g + 2) 2 (g + 1) (nextOf (edges (l1.take i))) w') ∧ Aside0 (Below g w w') ∧ w'.cell? ⟨g, 0, none⟩ = some (.int .i64 (N : Int)) ∧ Aside0 (∀ h ∈ l1.take i, inR (N : Int) h.f1 = true ∧ inR (N : Int) h.f2 = true) ∧ g + 2 ≤ w'.heap.size)
  case atStart => exact ⟨0, rfl, by omega, HM0, HB0, hcn, ⟨by simp⟩, hz0⟩
  case round =>
    clear HM0 HB0 hcn hz0
    obtain ⟨i, rfl, hik, HM, HB, hcn, HA, hz⟩ := hrel
    by_cases hi : i < n1
    · obtain ⟨kq, rfl⟩ : ∃ q, gk = q + 1 := ⟨gk - 1, by omega⟩
      obtain ⟨ad, rfl, x0, x1, x2⟩ := at_T39 (Kd.C_below HC1.out (show Below w.heap.size w wr by rw [HG.out]; exact HB.out)) (i : Int) (by omega) (by omega)
      have hiL : i < l1.length := by rw [HN1.out]; exact hi
      rw [rd39 l1 i hiL, Int.toNat_natCast] at x0 x1 x2
      have HT := Aside0.mk (show edges (l1.take (i + 1)) = edges (l1.take i) ++ [(l1[i].f1, l1[i].f2)] by
        unfold edges; rw [List.take_add_one, List.getElem?_eq_getElem hiL, List.map_append]; rfl)
      have HA2 := Aside0.mk (show (inR (N : Int) l1[i].f1 = true ∧ inR (N : Int) l1[i].f2 = true → ∀ h ∈ l1.take (i + 1), inR (N : Int) h.f1 = true ∧ inR (N : Int) h.f2 = true) from fun e1 h hh => by
        rw [List.take_add_one, List.getElem?_eq_getElem hiL] at hh
        rcases List.mem_append.1 hh with hh | hh
        · exact HA.out h hh
        · simp at hh; rw [hh]; exact e1)
      have HF := Aside0.mk (show ¬ (inR (N : Int) l1[i].f1 = true ∧ inR (N : Int) l1[i].f2 = true) → r = [] from fun e1 => by
        have e2 := H.out
        rw [if_neg (fun e3 => e1 (e3 _ (List.getElem_mem hiL)))] at e2
        exact (Option.some.inj e2).symm)
      obtain ⟨y0, hy0⟩ : ∃ y, l1[i].f0 = y := ⟨_, rfl⟩
      obtain ⟨y1, hy1⟩ : ∃ y, l1[i].f1 = y := ⟨_, rfl⟩
      obtain ⟨y2, hy2⟩ : ∃ y, l1[i].f2 = y := ⟨_, rfl⟩
      rw [hy0] at x0
      rw [hy1] at x1 HT HA2 HF
      rw [hy2] at x2 HT HA2 HF
      clear hy0 hy1 hy2 hiL
      have hcn2 : (wr.alloc (.cells #[.int .i64 y0, .int .i64 y1, .int .i64 y2] 39)).cell? ⟨g, 0, none⟩ = some (.int .i64 (N : Int)) := by
        rw [World.cell?_alloc_some _ _ _ (by rw [hcn]; rfl)]; exact hcn
      have HB2 := Aside0.mk (HB.out.alloc (by omega) (.cells #[.int .i64 y0, .int .i64 y1, .int .i64 y2] 39))
      by_cases e1 : inR (N : Int) y1 = true
      · by_cases e2 : inR (N : Int) y2 = true
        · have HA3 := Aside0.mk (HA2.out ⟨e1, e2⟩)
          have C1 := in28 y1 (N : Int) ⟨g, 0, none⟩ _ hcn2
          have C2 := in28 y2 (N : Int) ⟨g, 0, none⟩ _ hcn2
          rw [e1] at C1
          rw [e2] at C2
          have D1 := Aside0.mk C1
          have D2 := Aside0.mk C2
          clear C1 C2 e1 e2 HF HA2
          have hL : (nextOf (edges (l1.take i)) y1).length ≤ 1000000000000 := by
            have h1 := nextOf_length (edges (l1.take i)) y1
            have h2 : (edges (l1.take i)).length ≤ i := by unfold edges; rw [List.length_map, List.length_take]; omega
            omega
          obtain ⟨⟨V, hV, hO, hD⟩, hlt⟩ := HM.out
          have KEY := Aside0.mk (map_step (W := wr) (g := g) y0 y1 y2 hV hO hD hlt (show g + 2 ≤ wr.heap.size from hz) HT.out HB.out hcn)
          have hl0 := (map_look (W := wr) y0 y1 y2 hV).1
          have hl1 := (map_look (W := wr) y0 y1 y2 hV).2
          obtain ⟨i0, hi0, hz0, hz1, hz2⟩ := info_parts info2
          have HO1 := Aside0.mk (((hO y1).alloc (.cells #[.int .i64 y0, .int .i64 y1, .int .i64 y2] 39)).alloc (.cells #[.int .i64 y2] 2)).drew
          have HNW := Aside0.mk (map_news wr y0 y1 y2)
          obtain ⟨m1, hm1⟩ : ∃ m, (nextOf (edges (l1.take i)) y1).length = m := ⟨_, rfl⟩
          obtain ⟨zs1, hzs1⟩ : ∃ z, (nextOf (edges (l1.take i)) y1).map (Value.int .i64) = z := ⟨_, rfl⟩
          rw [hm1, hzs1] at KEY HO1
          rw [hm1] at hL
          obtain ⟨v1, hv1⟩ : ∃ v, V y1 = v := ⟨_, rfl⟩
          rw [hv1] at KEY HO1 hl0 hl1
          clear hm1 hzs1 hv1 hV hO hD HM
          go_wp2_with fail
          refine D1.out.mono ?_
          rintro e w' ⟨rfl, rfl⟩
          go_wp2_with fail
          refine D2.out.mono ?_
          rintro e w' ⟨rfl, rfl⟩
          go_wp2_with fail
          clear D1 D2
          go_region_held3 (fun w' => w'.cell? ⟨wr.heap.size, 1, none⟩ = some (.int .i64 y1) ∧ w'.cell? ⟨wr.heap.size, 2, none⟩ = some (.int .i64 y2)) (first | exact ⟨by assumption, by assumption⟩ | go_keep)
            (first | (refine step_append_lies _ rfl _ _ 23 rfl (g + 2) 2 i0 (.int .i64 0) 1 8 Try.underlying23 hi0 hz0 hz1 hz2 rfl (by decide) v1 m1 zs1 rfl HO1.out ⟨wr.heap.size + 1, 0, none⟩ 1 1 [.int .i64 y2] rfl rfl HNW.out (by intro u hu; simp at hu; subst hu; rfl) (by decide) (by unfold maxLen; omega) (by omega) (by simp; omega) (wr.heap.size + 2) (by simp) ?_; intro gq cap w5 hown hgrow hat hlt5; obtain ⟨w6, hup, hc1, hc2, hc3, hc4, HR6⟩ := KEY.out gq cap w5 hown hgrow hat; clear hown hgrow hat hlt5))
          all_goals clear KEY HO1 HNW hl0 hl1 hc1 hc2 hc3 hc4 hup
          all_goals obtain ⟨HM6, HB6, hcn6, hz6⟩ := HR6.out
          all_goals have HM7 := Aside0.mk HM6
          all_goals have HB7 := Aside0.mk HB6
          all_goals clear HM6 HB6 HR6
          all_goals go_wp2
          all_goals go_roundg kq
          all_goals (try case measure => omega)
          all_goals (try case rel => exact ⟨i + 1, by first | rfl | simp, by omega, HM7, HB7, hcn6, HA3, hz6⟩)
        · have e2 : inR (N : Int) y2 = false := by simpa using e2
          have hr := HF.out (fun e3 => by rw [e2] at e3; exact absurd e3.2 (by simp))
          subst hr
          have C1 := in28 y1 (N : Int) ⟨g, 0, none⟩ _ hcn2
          have C2 := in28 y2 (N : Int) ⟨g, 0, none⟩ _ hcn2
          rw [e1] at C1
          rw [e2] at C2
          have D1 := Aside0.mk C1
          have D2 := Aside0.mk C2
          clear C1 C2 e1 e2 HF HA2
          go_wp2_with fail
          refine D1.out.mono ?_
          rintro e w' ⟨rfl, rfl⟩
          go_wp2_with fail
          refine D2.out.mono ?_
          rintro e w' ⟨rfl, rfl⟩
          go_wp2
          go_ret
          exact ⟨_, rfl, Kd.R_nil _ _ _ _ _, by rw [HG.out]; exact HB2.out⟩
      · have e1 : inR (N : Int) y1 = false := by simpa using e1
        have hr := HF.out (fun e3 => by rw [e1] at e3; exact absurd e3.1 (by simp))
        subst hr
        have C1 := in28 y1 (N : Int) ⟨g, 0, none⟩ _ hcn2
        rw [e1] at C1
        have D1 := Aside0.mk C1
        clear C1 e1 HF HA2
        go_wp2_with fail
        refine D1.out.mono ?_
        rintro e w' ⟨rfl, rfl⟩
        go_wp2
        go_ret
        exact ⟨_, rfl, Kd.R_nil _ _ _ _ _, by rw [HG.out]; exact HB2.out⟩
    · have hin : i = n1 := by omega
      subst hin
      have hall : l1.take i = l1 := List.take_of_length_le (by rw [HN1.out]; exact Nat.le_refl _)
      have HA4 := Aside0.mk (show ∀ h ∈ l1, inR (N : Int) h.f1 = true ∧ inR (N : Int) h.f2 = true by rw [← hall]; exact HA.out)
      have HM4 := Aside0.mk (show Groups (g + 2) 2 (g + 1) (nextOf (edges l1)) wr by have := HM.out; rw [hall] at this; exact this)
      have HH := Aside0.mk (show (if ∀ (x : Int), x ∈ l2 → inR (N : Int) x = true then Option.map (fun s => outs s N) (dfs (edges l1) (n2 + i) (List.replicate (N + 1) false) l2.reverse) else some []) = some r by have := H.out; rw [if_pos HA4.out] at this; exact this)
      clear hall HA HM H hi hik
      obtain ⟨i4, hi4, hq0, hq1, hq2⟩ := info_parts info4
      obtain ⟨i0, hi0, hz0, hz1, hz2⟩ := info_parts info2
      obtain ⟨ws, hmk, hsn, hgs⟩ := run_makeSlice_full (P := Try.prog) wr wr.heap.size 51 4 i4 (.bool false) 1 Try.underlying51 hi4 hq0 hq1 .i64 .i64 (N + 1) (by omega) (by rw [hq2]; omega) (by unfold maxLen; omega) (Nat.le_refl _)
      rw [Int.natCast_add, Int.natCast_one] at hmk
      have HS0 := Aside0.mk (show ws.ownsRow wr.heap.size 4 1 (.slice (some ⟨wr.heap.size, 0, none⟩) (N + 1) (N + 1)) (N + 1) ((List.replicate (N + 1) false).map Value.bool) by
        rw [toList_made_bool] at hsn; exact hsn)
      have HB8 := Aside0.mk (show Below wr.heap.size wr ws from ⟨hgs.os, hgs.tape, hgs.output, hgs.size, fun k hk => hgs.block k hk (by simp)⟩)
      have hz8 : wr.heap.size + 1 ≤ ws.heap.size := by
        have : wr.heap.size < ws.heap.size := (hsn.lt _ rfl).2
        exact this
      clear hsn hgs
      obtain ⟨⟨V, hV, hO, hD⟩, hlt⟩ := HM4.out
      have HLK := Aside0.mk (show ∀ w', Below wr.heap.size ws w' → (∀ x, (Instr.lookup 56 (.map (some (g + 1))) (.int .i64 x) false).run Try.prog w' = .ok (V x) w') ∧ (∀ x, Ow 2 w' (g + 2) (V x) (nextOf (edges l1) x)) from fun w' hb =>
        ⟨fun x => lookup_run k56 (hV.below (HB8.out.trans hb)) x, fun x => ow_below (hO x) (HB8.out.trans hb) (Nat.le_refl _)⟩)
      have HVB := Aside0.mk (show ∀ x q, (V x).ownBlock = some q → q < wr.heap.size from fun x q hq => ((hO x).lt q hq).2)
      clear hV hO hD hlt HM4
      generalize hgq : wr.heap.size = gs at *
      have HGS := Aside0.mk hgq
      clear hgq
      have hgg : g + 2 ≤ gs := hz
      have HN0 : Aside0 (ws.cell? ⟨g, 0, none⟩ = some (.int .i64 (N : Int))) := ⟨(HB8.out.cell (show g < gs by omega)).trans hcn⟩
      have HBw := Aside0.mk (show Below g w ws from HB.out.trans (HB8.out.mono (show g ≤ gs by omega)))
      go_wp2_with fail
      clear hmk hcn
      go_loopg [12, 61] n2 (fun kq v12 v61 w' => ∃ j : Nat, v61 = .int .i64 j ∧ j + kq = n2 ∧ Aside0 (Ow 2 w' (gs + 1) v12 (l2.take j)) ∧ Aside0 (Below (gs + 1) ws w') ∧ Aside0 (∀ x ∈ l2.take j, inR (N : Int) x = true) ∧ gs + 1 ≤ w'.heap.size)
      case atStart => exact ⟨0, rfl, by omega, ⟨World.ownsRow_nil _ _ _ _⟩, ⟨Below.refl _ _⟩, ⟨by simp⟩, hz8⟩
      case round =>
        clear hz8 hz
        obtain ⟨j, rfl, hjk, HT, HBj, HX, hz⟩ := hrel
        have hcn : wr.cell? ⟨g, 0, none⟩ = some (.int .i64 (N : Int)) := (HBj.out.cell (show g < gs + 1 by omega)).trans HN0.out
        by_cases hj : j < n2
        · obtain ⟨kq, rfl⟩ : ∃ q, gk = q + 1 := ⟨gk - 1, by omega⟩
          obtain ⟨ad, rfl, x0⟩ := Kd.at_int (Kd.C_below HC2.out (show Below w.heap.size w wr by rw [HG.out]; exact HBw.out.trans (HBj.out.mono (show g ≤ gs + 1 by omega)))) (j : Int) (by omega) (by omega)
          have hjL : j < l2.length := by rw [HN2.out]; exact hj
          rw [rdI l2 j hjL, Int.toNat_natCast] at x0
          have HT3 := Aside0.mk (show l2.take (j + 1) = l2.take j ++ [l2[j]] by rw [List.take_add_one, List.getElem?_eq_getElem hjL]; rfl)
          have HX2 := Aside0.mk (show inR (N : Int) l2[j] = true → ∀ x ∈ l2.take (j + 1), inR (N : Int) x = true from fun e1 x hx => by
            rw [HT3.out] at hx
            rcases List.mem_append.1 hx with hx | hx
            · exact HX.out x hx
            · simp at hx; rw [hx]; exact e1)
          have HF := Aside0.mk (show ¬ (inR (N : Int) l2[j] = true) → r = [] from fun e1 => by
            have e2 := HH.out
            rw [if_neg (fun e3 => e1 (e3 _ (List.getElem_mem hjL)))] at e2
            exact (Option.some.inj e2).symm)
          obtain ⟨x, hx⟩ : ∃ x, l2[j] = x := ⟨_, rfl⟩
          rw [hx] at x0 HT3 HX2 HF
          clear hx hjL HX
          by_cases e1 : inR (N : Int) x = true
          · have HX3 := Aside0.mk (HX2.out e1)
            have C1 := in28 x (N : Int) ⟨g, 0, none⟩ _ hcn
            rw [e1] at C1
            have D1 := Aside0.mk C1
            have hL : (l2.take j).length ≤ 1000000000000 := by rw [List.length_take]; omega
            have KEY := Aside0.mk (ow_push (x := x) (Nat.le_refl _) HT.out HBj.out hz)
            have HO1 := Aside0.mk (HT.out.alloc (.cells #[.int .i64 x] 2))
            obtain ⟨m1, hm1⟩ : ∃ m, (l2.take j).length = m := ⟨_, rfl⟩
            obtain ⟨zs1, hzs1⟩ : ∃ z, (l2.take j).map (Value.int .i64) = z := ⟨_, rfl⟩
            rw [hm1, hzs1] at KEY HO1
            rw [hm1] at hL
            clear hm1 hzs1 C1 e1 HF HX2 HT
            go_wp2_with fail
            refine D1.out.mono ?_
            rintro e w' ⟨rfl, rfl⟩
            go_wp2_with (first | (at_builtin; refine wpList_append_own_at _ rfl _ _ 23 rfl (gs + 1) 2 i0 (.int .i64 0) 1 8 Try.underlying23 hi0 hz0 hz1 hz2 rfl (by decide) u12 m1 zs1 rfl HO1.out ⟨w'.heap.size, 0, none⟩ 1 1 [.int .i64 x] rfl rfl (cell_one_new _ _ _) (by intro u hu; simp at hu; subst hu; rfl) (by unfold maxLen; omega) (by omega) (by simp; omega) ?_; intro v' w5 hown hgrow hnil hat) | go_in)
            obtain ⟨k1, k2, k3⟩ := KEY.out v' w5 hown hgrow
            have K1 := Aside0.mk k1
            have K2 := Aside0.mk k2
            clear k1 k2 KEY HO1 hown hgrow hnil hat
            go_roundg kq
            case measure => omega
            case rel => exact ⟨j + 1, by first | rfl | simp, by omega, ⟨by rw [HT3.out]; exact K1.out⟩, K2, HX3, k3⟩
          · have e1 : inR (N : Int) x = false := by simpa using e1
            have hr := HF.out (by rw [e1]; simp)
            subst hr
            have C1 := in28 x (N : Int) ⟨g, 0, none⟩ _ hcn
            rw [e1] at C1
            have D1 := Aside0.mk C1
            clear C1 e1 HF HX2
            go_wp2_with fail
            refine D1.out.mono ?_
            rintro e w' ⟨rfl, rfl⟩
            go_wp2
            go_ret
            exact ⟨_, rfl, Kd.R_nil _ _ _ _ _, by rw [HG.out]; exact HBw.out.trans (HBj.out.mono (show g ≤ gs + 1 by omega))⟩
        · have hjn : j = n2 := by omega
          subst hjn
          have hall : l2.take j = l2 := List.take_of_length_le (by rw [HN2.out]; exact Nat.le_refl _)
          have hX : ∀ x ∈ l2, inR (N : Int) x = true := by rw [← hall]; exact HX.out
          have HT5 := Aside0.mk (show Ow 2 wr (gs + 1) u12 l2.reverse.reverse by rw [List.reverse_reverse]; have := HT.out; rw [hall] at this; exact this)
          have hHH := HH.out
          rw [if_pos hX] at hHH
          obtain ⟨s, hs, hsr⟩ : ∃ s, dfs (edges l1) (j + i) (List.replicate (N + 1) false) l2.reverse = some s ∧ outs s N = r := by
            cases hd : dfs (edges l1) (j + i) (List.replicate (N + 1) false) l2.reverse with
            | none => rw [hd] at hHH; simp at hHH
            | some s => exact ⟨s, rfl, by rw [hd] at hHH; simpa using hHH⟩
          have HSR := Aside0.mk hsr
          have HED := Aside0.mk (edges_ok HA4.out)
          have HD0 := Aside0.mk (show dfs (edges l1) (j + i) (List.replicate (N + 1) false) l2.reverse = some s ∧ l2.reverse.length + open_ (edges l1) (List.replicate (N + 1) false) ≤ j + i ∧ (List.replicate (N + 1) false).length = N + 1 ∧ ∀ x ∈ l2.reverse, 1 ≤ x ∧ x ≤ (N : Int) from
            ⟨hs, by
              have h1 : open_ (edges l1) (List.replicate (N + 1) false) ≤ (edges l1).length := List.length_filter_le _ _
              have h2 : (edges l1).length = i := by unfold edges; rw [List.length_map, HN1.out]
              rw [List.length_reverse, HN2.out]
              omega, by simp, fun x hx => by
              have h1 := hX x (List.mem_reverse.1 hx)
              simp [inR] at h1
              exact h1⟩)
          have HS5 := Aside0.mk (row_below HBj.out (Nat.lt_succ_self gs) HS0.out)
          have HB5 := Aside0.mk (HBj.out.mono (show gs ≤ gs + 1 by omega))
          have hF : j + i ≤ 2000000000000 := by omega
          clear hall hX hHH hs hsr HX HT HBj HS0 hj hjk hcn HH
          go_wp2_with fail
          go_loopg [12] (j + i) (fun kq v12 w' => ∃ (seen : List Bool) (rev : List Int), Aside0 (Ow 2 w' (gs + 1) v12 rev.reverse) ∧ Aside0 (w'.ownsRow gs 4 1 (.slice (some ⟨gs, 0, none⟩) (N + 1) (N + 1)) (N + 1) (seen.map Value.bool)) ∧ Aside0 (Below gs ws w') ∧ gs + 1 ≤ w'.heap.size ∧ kq ≤ 2000000000000 ∧
            Aside0 (dfs (edges l1) kq seen rev = some s ∧ rev.length + open_ (edges l1) seen ≤ kq ∧ seen.length = N + 1 ∧ ∀ x ∈ rev, 1 ≤ x ∧ x ≤ (N : Int)))
          case atStart => exact ⟨_, _, HT5, HS5, HB5, hz, hF, HD0⟩
          case round =>
            clear HT5 HS5 HB5 hz hF HD0
            obtain ⟨seen, rev, HT, HS, HB9, hz, hk, HD⟩ := hrel
            cases rev with
            | nil =>
              have hs : seen = s := by
                have := HD.out.1
                cases gk <;> exact Option.some.inj this
              subst hs
              obtain ⟨a, c, rfl⟩ := ow_shape HT.out
              clear HT HD
              obtain ⟨w4, hw4⟩ : ∃ w4, wr = w4 := ⟨_, rfl⟩
              rw [hw4] at HS HB9 hz ⊢
              clear hw4
              obtain ⟨b4, hb4⟩ : ∃ b4, w4.heap.size = b4 := ⟨_, rfl⟩
              have HB4 := Aside0.mk hb4
              have hgb : gs < b4 := by omega
              clear hb4 hz
              go_wp2_with fail
              go_loopg [16, 17] N (fun kq v16 v17 w' => ∃ m : Nat, v17 = .int .i64 ((m : Int) + 1) ∧ m + kq = N ∧ Aside0 (Ow 2 w' b4 v16 (outs seen m)) ∧ Aside0 (Below b4 w4 w') ∧ b4 ≤ w'.heap.size)
              case atStart => exact ⟨0, rfl, by omega, ⟨World.ownsRow_nil _ _ _ _⟩, ⟨Below.refl _ _⟩, by rw [HB4.out]; exact Nat.le_refl _⟩
              case round =>
                obtain ⟨m, rfl, hmk, HT, HBm, hz⟩ := hrel
                have hcn : wr.cell? ⟨g, 0, none⟩ = some (.int .i64 (N : Int)) := (HBm.out.cell (show g < b4 by omega)).trans ((HB9.out.cell (show g < gs by omega)).trans HN0.out)
                by_cases hmN : m < N
                · obtain ⟨kq, rfl⟩ : ∃ q, gk = q + 1 := ⟨gk - 1, by omega⟩
                  have HS6 := row_below HBm.out hgb HS.out
                  have hlen := HS6.1
                  have hsl : (seen.map Value.bool)[m + 1]? = some (.bool (has seen ((m : Int) + 1))) := by
                    rw [List.length_map] at hlen
                    rw [List.getElem?_map]
                    simp only [has, show ((m : Int) + 1).toNat = m + 1 by omega, List.getD_eq_getElem?_getD]
                    rw [List.getElem?_eq_getElem (by omega)]
                    rfl
                  have hsc := (HS6.cellAt (m + 1) (by omega)).trans hsl
                  have HOS := Aside0.mk (outs_succ seen m)
                  have hle : (m : Int) + 1 ≤ (N : Int) := by omega
                  have hL : (outs seen m).length ≤ 2000 := by
                    unfold outs
                    rw [List.length_map]
                    exact Nat.le_trans (List.length_filter_le _ _) (by rw [List.length_range]; omega)
                  clear HS6 hlen hsl
                  by_cases hh : has seen ((m : Int) + 1) = true
                  · rw [hh] at hsc
                    have HO2 := Aside0.mk (show outs seen (m + 1) = outs seen m ++ [(m : Int) + 1] by rw [HOS.out, if_pos hh])
                    have KEY := Aside0.mk (ow_push (x := (m : Int) + 1) (Nat.le_refl _) HT.out HBm.out hz)
                    have HO1 := Aside0.mk (HT.out.alloc (.cells #[.int .i64 ((m : Int) + 1)] 2))
                    obtain ⟨m1, hm1⟩ : ∃ m1, (outs seen m).length = m1 := ⟨_, rfl⟩
                    obtain ⟨zs1, hzs1⟩ : ∃ z, (outs seen m).map (Value.int .i64) = z := ⟨_, rfl⟩
                    rw [hm1, hzs1] at KEY HO1
                    rw [hm1] at hL
                    clear hm1 hzs1 hh HOS HT
                    go_wp2_with (first | (at_builtin; refine wpList_append_own_at _ rfl _ _ 23 rfl b4 2 i0 (.int .i64 0) 1 8 Try.underlying23 hi0 hz0 hz1 hz2 rfl (by decide) u16 m1 zs1 rfl HO1.out ⟨wr.heap.size, 0, none⟩ 1 1 [.int .i64 ((m : Int) + 1)] rfl rfl (cell_one_new _ _ _) (by intro u hu; simp at hu; subst hu; rfl) (by unfold maxLen; omega) (by omega) (by simp; omega) ?_; intro v' w5 hown hgrow hnil hat) | go_in)
                    obtain ⟨k1, k2, k3⟩ := KEY.out v' w5 hown hgrow
                    have K1 := Aside0.mk k1
                    have K2 := Aside0.mk k2
                    clear k1 k2 KEY HO1 hown hgrow hnil hat
                    go_roundg kq
                    case measure => omega
                    case rel => exact ⟨m + 1, by first | rfl | simp, by omega, ⟨by rw [HO2.out]; exact K1.out⟩, K2, k3⟩
                  · have hh2 : has seen ((m : Int) + 1) = false := by simpa using hh
                    rw [hh2] at hsc
                    have HO2 := Aside0.mk (show outs seen (m + 1) = outs seen m by rw [HOS.out, if_neg hh])
                    clear hh hh2 HOS
                    go_wp2
                    go_roundg kq
                    case measure => omega
                    case rel => exact ⟨m + 1, by first | rfl | simp, by omega, ⟨by rw [HO2.out]; exact HT.out⟩, HBm, hz⟩
                · have hmn : m = N := by omega
                  subst hmn
                  go_wp2
                  go_ret
                  refine ⟨_, rfl, Kd.R_of_own (own_weaken (by have := HT.out; rw [HSR.out] at this; exact this) (show w.heap.size ≤ b4 by rw [HG.out]; omega)) (fun _ _ => trivial), ?_⟩
                  rw [HG.out]
                  exact HBw.out.trans ((HB9.out.mono (show g ≤ gs by omega)).trans (HBm.out.mono (show g ≤ b4 by omega)))
            | cons x r2 =>
              obtain ⟨kq, rfl⟩ : ∃ q, gk = q + 1 := by
                cases gk with
                | zero => exact absurd HD.out.1 (by simp [dfs])
                | succ q => exact ⟨q, rfl⟩
              obtain ⟨hd1, hd2, hd3, hd4⟩ := HD.out
              have hx := hd4 x (by simp)
              obtain ⟨y, rfl⟩ : ∃ y : Nat, x = y := ⟨x.toNat, by omega⟩
              obtain ⟨m, hm⟩ : ∃ m, r2.length = m := ⟨_, rfl⟩
              obtain ⟨gt, cap, rfl, hgt, hgl, hcap, hc, hP⟩ := pop_facts hm HT.out
              have hyN : y ≤ N := by omega
              have hy1 : 1 ≤ y := by omega
              have hsl : (seen.map Value.bool)[y]? = some (.bool (has seen (y : Int))) := by
                rw [List.getElem?_map]
                simp only [has, Int.toNat_natCast, List.getD_eq_getElem?_getD]
                rw [List.getElem?_eq_getElem (by omega)]
                rfl
              have hsc := (HS.out.cellAt y (by omega)).trans hsl
              have hfz := HS.out.frozenAt y
              have hml : m ≤ 2000000000000 := by simp only [List.length_cons] at hd2; omega
              rw [dfs] at hd1
              rw [List.length_cons, hm] at hd2
              by_cases hsy : has seen (y : Int) = true
              · rw [if_pos hsy] at hd1
                rw [hsy] at hsc
                have HD2 := Aside0.mk (show dfs (edges l1) kq seen r2 = some s ∧ r2.length + open_ (edges l1) seen ≤ kq ∧ seen.length = N + 1 ∧ ∀ x ∈ r2, 1 ≤ x ∧ x ≤ (N : Int) from ⟨hd1, by rw [hm]; omega, hd3, fun z hz => hd4 z (by simp [hz])⟩)
                have HP := Aside0.mk hP
                have HMM := Aside0.mk hm
                clear hP hd1 hd2 hd3 hd4 hx hsl hsy HT HD hfz hm
                go_wp2
                go_roundg kq
                case measure => omega
                case rel => exact ⟨seen, r2, ⟨by show Go.World.ownsRow _ _ _ _ _ _ _; rw [List.length_reverse, HMM.out]; exact HP.out⟩, HS, HB9, hz, by omega, HD2⟩
              · rw [if_neg hsy] at hd1
                have hsy2 : has seen (y : Int) = false := by simpa using hsy
                rw [hsy2] at hsc
                have hse : seen.length = N + 1 := hd3
                have hE2 : ∀ p ∈ edges l1, 0 ≤ p.1 := fun p hp => by have := (HED.out p hp).1; omega
                have hop := open_set seen (y : Int) (by omega) (by rw [Int.toNat_natCast]; omega) hsy2 (edges l1) hE2
                rw [Int.toNat_natCast] at hd1 hop
                have HD2 := Aside0.mk (show dfs (edges l1) kq (seen.set y true) ((nextOf (edges l1) (y : Int)).reverse ++ r2) = some s ∧ ((nextOf (edges l1) (y : Int)).reverse ++ r2).length + open_ (edges l1) (seen.set y true) ≤ kq ∧ (seen.set y true).length = N + 1 ∧ ∀ x ∈ (nextOf (edges l1) (y : Int)).reverse ++ r2, 1 ≤ x ∧ x ≤ (N : Int) from
                  ⟨hd1, by rw [List.length_append, List.length_reverse, hm]; omega, by rw [List.length_set]; exact hse, fun z hz => by
                    rcases List.mem_append.1 hz with hz | hz
                    · rw [List.mem_reverse, mem_nextOf] at hz
                      exact (HED.out _ hz).2
                    · exact hd4 z (by simp [hz])⟩)
                have hst := HS.out.stored y (.bool true)
                rw [← List.map_set] at hst
                have HS2 := Aside0.mk hst.1
                have HB10 := Aside0.mk (HB9.out.grown hst.2 (by omega) (fun q hq => by injection hq with hq; omega))
                have hP2 := hP.kept hst.2 (.inr (by intro e; injection e with e; simp at e; omega))
                obtain ⟨hl1, hO1⟩ := HLK.out _ HB10.out
                have hlk := hl1 (y : Int)
                have hOy := hO1 (y : Int)
                have hVy := HVB.out (y : Int)
                have hnl : (nextOf (edges l1) (y : Int)).length ≤ i := by
                  have h1 := nextOf_length (edges l1) (y : Int)
                  have h2 : (edges l1).length = i := by unfold edges; rw [List.length_map, HN1.out]
                  omega
                obtain ⟨vy, hvy⟩ : ∃ v, V (y : Int) = v := ⟨_, rfl⟩
                rw [hvy] at hlk hOy hVy
                obtain ⟨zy, hzy⟩ : ∃ z, nextOf (edges l1) (y : Int) = z := ⟨_, rfl⟩
                rw [hzy] at HD2 hOy hnl
                have HMM := Aside0.mk hm
                have HP := Aside0.mk hP2
                have HOY := Aside0.mk hOy
                have hzz : gs + 1 ≤ (wr.setCell ⟨gs, y, none⟩ (.bool true)).heap.size := by simpa using hz
                clear hP hd1 hd2 hd3 hd4 hx hsl hsy HT HD hm hsy2 hse hE2 hop hst hP2 hl1 hO1 hvy hzy
                rcases hOy.2 with ⟨rfl, h0⟩ | ⟨gv, capv, cur, rfl, _⟩
                · obtain rfl : zy = [] := List.length_eq_zero_iff.1 h0
                  clear hOy h0
                  go_wp2_with (first | (at_builtin; refine wpList_append_own_none rfl _ _ 23 rfl (gs + 1) 2 i0 1 Try.underlying23 hi0 (.slice (some ⟨gt, 0, none⟩) m cap) m _ rfl HP.out rfl ?_) | go_in)
                  clear HOY
                  go_roundg kq
                  case measure => omega
                  case rel => exact ⟨seen.set y true, r2, ⟨by show Go.World.ownsRow _ _ _ _ _ _ _; rw [List.length_reverse, HMM.out]; exact HP.out⟩, HS2, HB10, hzz, by omega, HD2⟩
                · have HNW := Aside0.mk (hOy.cells (g := gv) rfl)
                  obtain ⟨nv, hnv⟩ : ∃ n, zy.length = n := ⟨_, rfl⟩
                  have HNV := Aside0.mk hnv
                  rw [hnv] at hnl hlk
                  have hgv : gv < gs := hVy gv rfl
                  obtain ⟨zs, hzs⟩ : ∃ z, r2.reverse.map (Value.int .i64) = z := ⟨_, rfl⟩
                  have HZS := Aside0.mk hzs
                  rw [hzs] at HP
                  obtain ⟨ns, hns⟩ : ∃ z, zy.map (Value.int .i64) = z := ⟨_, rfl⟩
                  have HNS := Aside0.mk hns
                  rw [hns] at HNW
                  have HNL := Aside0.mk (show ns.length = nv * 1 by rw [← hns, List.length_map, HNV.out, Nat.mul_one])
                  have HNC := Aside0.mk (show ∀ u ∈ ns, u.oneCell' = true by
                    rw [← hns]; intro u hu
                    obtain ⟨z, _, rfl⟩ := List.mem_map.1 hu
                    rfl)
                  clear hOy hnv hzs hns HOY
                  go_wp2_with (first | (at_builtin; refine wpList_append_own_at _ rfl _ _ 23 rfl (gs + 1) 2 i0 (.int .i64 0) 1 8 Try.underlying23 hi0 hz0 hz1 hz2 rfl (by decide) (.slice (some ⟨gt, 0, none⟩) m cap) m zs rfl HP.out ⟨gv, 0, none⟩ nv capv ns rfl HNL.out HNW.out HNC.out (by unfold maxLen; omega) (by omega) hzz ?_; intro v' w5 hown hgrow hnil hat) | go_in)
                  have HO5 := Aside0.mk hown
                  have HS5 := Aside0.mk (HS2.out.kept hgrow (.inr (by intro e; injection e with e; simp at e; omega)))
                  have HB5 := Aside0.mk (HB10.out.grown hgrow (by omega) (fun q hq => by injection hq with hq; simp at hq; omega))
                  have hz5 : gs + 1 ≤ w5.heap.size := Nat.le_trans hzz hgrow.size
                  clear hown hgrow hnil hat HP HS2 HB10 HNW HNL HNC
                  go_roundg kq
                  case measure => omega
                  case rel => exact ⟨seen.set y true, zy.reverse ++ r2, ⟨by
                    show Go.World.ownsRow _ _ _ _ _ _ _
                    rw [List.reverse_append, List.reverse_reverse, List.length_append, List.length_reverse, HMM.out, HNV.out, List.map_append, HZS.out, HNS.out]
                    exact HO5.out⟩, HS5, HB5, hz5, by omega, HD2⟩
end Go.Proofs.Ythpdhahjpjhfiaa.PR
