/- The program's DictOk, as a Lean function, and that the Go function comes to just that; no condition beyond those of the theorems. -/
import Derived.Test.YtohilfkdfcihgaaGMap
import Derived.Test.YtohilfkdfcihgaaPDix17
import Derived.BigQuiet
namespace Go.Proofs.Ytohilfkdfcihgaa.PDi
open Go.RowKit Go.Proofs.YtohilfkdfcihgaaW.PrintWords Go.Proofs.YtohilfkdfcihgaaW.PrintLast Go.Proofs.YtohilfkdfcihgaaW.PrintMore
attribute [local go_sem] max2_int min2_int max_two min_two max_three min_three max_four min_four
set_option linter.unusedVariables false
set_option linter.unusedSimpArgs false

/-- The loop over the entries: the table so far, how many are alive, which keys. -/
def okLoop (T : List Int) (live : Int) : List S62 → Int → List Int → Int → List (Int × Int) → Option Bool
  | [], _, slots, lv, _ => some (decide (slots = T) && lv == live)
  | e :: rest, i, slots, lv, S =>
    (probe (layStep i) e.f0 T.length 1000000 slots (e.f0 % T.length) 5).bind fun slots' =>
      if e.f3 = true then (if e.f1 = 0 ∧ e.f2 = 0 then okLoop T live rest (i + 1) slots' lv S else some false)
      else if (e.f0, e.f1) ∈ S then some false else okLoop T live rest (i + 1) slots' (lv + 1) (S ++ [(e.f0, e.f1)])

def sizeOk (n : Int) : Bool := decide (8 ≤ n) && decide (n ≤ 65536) && (Go.bits .and .i64 n (n - 1) == 0)

def impl_DictOk.f (T : List Int) (E : List S62) (live : Int) : Option Bool :=
  if (∀ e ∈ E, 0 ≤ e.f0 ∧ e.f0 ≤ 18446744073709551615) ∧ T.length < 1000000000000 ∧ E.length < 1000000000000 then
    if sizeOk T.length = true ∧ (E.length : Int) ≤ 2 * T.length / 3 then okLoop T live E 0 (List.replicate T.length (-1)) 0 [] else some false
  else none

set_option maxHeartbeats 1000000 in
set_option maxRecDepth 100000 in
theorem dictok_small (A0_0 : Option Addr) (c0_0 : Nat) (l0_0 : List Int) (A0_1 : Option Addr) (c0_1 : Nat) (l0_1 : List S62) (a0_2 : Int) (w : World) (hn : l0_0.length < 1000000000000) (hm : l0_1.length < 1000000000000)
    (h : ¬ (sizeOk l0_0.length = true ∧ (l0_1.length : Int) ≤ 2 * l0_0.length / 3)) :
    Calls Try.prog 22 #[.agg #[.slice A0_0 l0_0.length c0_0, .slice A0_1 l0_1.length c0_1, .int .i64 a0_2]] w fun e w' => e = .returned (.bool false) ∧ Below w.heap.size w w' := by
  generalize l0_0.length = n at *
  generalize l0_1.length = m at *
  unfold sizeOk at h
  by_cases h1 : (n : Int) < 8
  · clear h
    go_enter Try.func22, Try.ntmps22
    go_wp2
    go_ret
    exact ⟨rfl, below_alloc (Below.refl _ _) _⟩
  · by_cases h2 : 65536 < (n : Int)
    · clear h
      go_enter Try.func22, Try.ntmps22
      go_wp2
      go_ret
      exact ⟨rfl, below_alloc (Below.refl _ _) _⟩
    · obtain ⟨z, hz⟩ : ∃ z, Go.bits .and .i64 (n : Int) ((n : Int) - 1) = z := ⟨_, rfl⟩
      by_cases h3 : z = 0
      · have h4 : 2 * (n : Int) / 3 < m := by
          have : (8 : Int) ≤ n := by omega
          have h7 : (n : Int) ≤ 65536 := by omega
          simp [hz, h3, this, h7] at h
          omega
        have hb : (z != 0) = false := by simp [h3]
        clear h h3
        go_enter Try.func22, Try.ntmps22
        go_wp2
        go_ret
        exact ⟨rfl, below_alloc (Below.refl _ _) _⟩
      · have hb : (z != 0) = true := by simp [h3]
        clear h h3
        go_enter Try.func22, Try.ntmps22
        go_wp2
        go_ret
        exact ⟨rfl, below_alloc (Below.refl _ _) _⟩

theorem MapAt.grown {b : Nat} {S : List (Int × Int)} {w w' : World} (h : MapAt b S w) {row : Option Nat} (hg : w.grownBy w' row) (hne : some b ≠ row) : MapAt b S w' := by
  obtain ⟨es, clock, hb, hs⟩ := h
  exact ⟨es, clock, (hg.block b ((Array.getElem?_eq_some_iff.1 hb).1) hne).trans hb, hs⟩
theorem MapAt.lt {b : Nat} {S : List (Int × Int)} {w : World} (h : MapAt b S w) : b < w.heap.size := by
  obtain ⟨es, clock, hb, hs⟩ := h
  exact (Array.getElem?_eq_some_iff.1 hb).1

theorem below_grown {w w1 w2 : World} {row : Option Nat} (h : Below w.heap.size w w1) (hg : w1.grownBy w2 row) (hr : ∀ k, row = some k → w.heap.size ≤ k) : Below w.heap.size w w2 :=
  ⟨hg.os.trans h.os, hg.tape.trans h.tape, hg.output.trans h.output, Nat.le_trans h.size hg.size, fun k hk => (hg.block k (Nat.lt_of_lt_of_le hk h.size) (fun e => by have := hr k e.symm; omega)).trans (h.block k hk)⟩

theorem ylay_n (n : Nat) (h place : Int) (g cap base fuel : Nat) (T T' : List Int) (w : World) (hl : T.length = n) (hn0 : 0 < n) (hn1 : n ≤ 1000000) (hh0 : 0 ≤ h) (hh1 : h ≤ 18446744073709551615) (hf : fuel ≤ 1000000000)
    (ho : w.ownsRow base 2 1 (.slice (some ⟨g, 0, none⟩) n cap) n (nums .i64 T)) (hp : probe (layStep place) h n fuel T (h % n) 5 = some T') :
    Calls Try.prog 58 #[.slice (some ⟨g, 0, none⟩) n cap, .int .u64 h, .int .i64 place] w fun e w' => e = .returned (.tuple #[]) ∧ w'.ownsRow base 2 1 (.slice (some ⟨g, 0, none⟩) n cap) n (nums .i64 T') ∧ w.grownBy w' (some g) := by
  subst hl
  exact ylay_calls h place g cap base fuel T T' w hn0 hn1 hh0 hh1 hf ho hp

theorem dk_take_set {α : Type} {x : List α} {i : Nat} {v : α} (hi : i < x.length) : (x.set i v).take (i + 1) = x.take i ++ [v] := by
  apply List.ext_getElem?
  intro j
  rcases Nat.lt_trichotomy j i with h | h | h
  · rw [List.getElem?_append_left (by simp; omega)]
    simp only [List.getElem?_take, show j < i + 1 by omega, h, if_true, List.getElem?_set, show i ≠ j by omega, if_false]
  · subst h
    rw [List.getElem?_append_right (by simp; omega)]
    simp [hi, Nat.min_eq_left (Nat.le_of_lt hi)]
  · rw [List.getElem?_eq_none (by simp; omega), List.getElem?_eq_none (by simp; omega)]

theorem yempty_loop (n : Nat) (hn : n ≤ 1000000) (d : Nat) : ∀ (k i : Nat) (x : List Int), n = i + d → x.length = n → d < k → x.take i = List.replicate i (-1) → impl_yempty.l0 k x n (i : Int) = some (List.replicate n (-1)) := by
  induction d with
  | zero =>
    intro k i x h1 h2 h3 h4
    obtain ⟨k, rfl⟩ : ∃ m, k = m + 1 := ⟨k - 1, by omega⟩
    simp only [impl_yempty.l0]
    rw [if_neg (by omega)]
    rw [List.take_of_length_le (by omega), show i = n by omega] at h4
    rw [h4]
  | succ d ih =>
    intro k i x h1 h2 h3 h4
    obtain ⟨k, rfl⟩ : ∃ m, k = m + 1 := ⟨k - 1, by omega⟩
    have hw : wrap64 ((i : Int) + 1) = ((i + 1 : Nat) : Int) := by unfold wrap64; omega
    simp only [impl_yempty.l0]
    rw [if_pos (by omega), if_pos (by omega), if_pos (by omega), hw, Int.toNat_natCast]
    refine ih k (i + 1) _ (by omega) (by rw [List.length_set]; exact h2) (by omega) ?_
    rw [dk_take_set (by omega), h4, List.replicate_succ']

theorem yempty_some (n k : Nat) (hn : n ≤ 1000000) (hk : n < k) : impl_yempty.f k n = some (List.replicate n (-1)) := by
  unfold impl_yempty.f
  rw [if_pos (by omega), if_pos (by omega)]
  simp only [Option.bind_some, Int.toNat_natCast]
  have := yempty_loop n hn n k 0 (List.replicate n 0) (by omega) (by simp) hk (by simp)
  simpa using this

set_option maxHeartbeats 4000000 in
set_option maxRecDepth 100000 in
theorem dictok_main (A0_0 : Option Addr) (c0_0 : Nat) (T : List Int) (A0_1 : Option Addr) (c0_1 : Nat) (E : List S62) (live : Int) (r : Bool) (w : World) (hr0 : Kd.C (Kd.int .i64) w A0_0 T.length T) (hr1 : Kd.C k62 w A0_1 E.length E)
    (hn0 : 8 ≤ T.length) (hn1 : T.length ≤ 65536) (hbits : Go.bits .and .i64 (T.length : Int) ((T.length : Int) - 1) = 0) (hle : (E.length : Int) ≤ 2 * T.length / 3) (hwf : ∀ e ∈ E, 0 ≤ e.f0 ∧ e.f0 ≤ 18446744073709551615)
    (hp : okLoop T live E 0 (List.replicate T.length (-1)) 0 [] = some r) :
    Calls Try.prog 22 #[.agg #[.slice A0_0 T.length c0_0, .slice A0_1 E.length c0_1, .int .i64 live]] w fun e w' => e = .returned (.bool r) ∧ Below w.heap.size w w' := by
  have hmm := @run_makeMap Try.prog
  have HP := Aside0.mk hp
  have HR0 := Aside0.mk hr0
  have HR1 := Aside0.mk hr1
  have HWF := Aside0.mk hwf
  have HY := Aside0.mk (yempty_some T.length (T.length + 1) (by omega) (by omega))
  clear hp hr0 hr1 hwf
  generalize hN : T.length = n at *
  have HN := Aside0.mk hN
  generalize hM : E.length = m at *
  have HM := Aside0.mk hM
  clear hN hM
  obtain ⟨z, hz⟩ : ∃ z, Go.bits .and .i64 (n : Int) ((n : Int) - 1) = z := ⟨_, rfl⟩
  have hzb : (z != 0) = false := by rw [← hz, hbits]; rfl
  clear hbits
  go_enter Try.func22, Try.ntmps22
  go_wp2_with fail
  refine (impl_yempty.calls _ _ _ _ HY.out).mono ?_
  rintro e w1 ⟨v, rfl, ho, hb⟩
  have hrow := Kd.own_of_R ho
  have hform : ∃ g cap, v = .slice (some ⟨g, 0, none⟩) n cap ∧ w.heap.size + 1 ≤ g := by
    have hl : (List.replicate n (-1 : Int)).length = n := by simp
    rw [hl] at hrow
    rcases hrow.2 with ⟨rfl, h0⟩ | ⟨g, cap, cur, rfl, hg, _⟩
    · omega
    · exact ⟨g, cap, rfl, by simpa using hg⟩
  obtain ⟨g, cap, rfl, hg⟩ := hform
  have hrow1 : w1.ownsRow (w.heap.size + 1) 2 1 (.slice (some ⟨g, 0, none⟩) n cap) n (nums .i64 (List.replicate n (-1))) := by
    have hl : (List.replicate n (-1 : Int)).length = n := by simp
    rw [hl] at hrow
    have h3 : w1.ownsRow (w.alloc (Obj.cells #[Value.slice A0_0 n c0_0, Value.slice A0_1 m c0_1, Value.int IntKind.i64 live] 25)).heap.size 2 1 (Value.slice (some ⟨g, 0, none⟩) n cap) n (nums .i64 (List.replicate n (-1))) := hrow
    simpa using h3
  have hbox : w1.heap[w.heap.size]? = some (.cells #[.slice A0_0 n c0_0, .slice A0_1 m c0_1, .int .i64 live] 25 (0, 0)) := by
    rw [hb.block w.heap.size (by simp)]
    exact heap_alloc_new _ _
  have hB1 : Below w.heap.size w w1 := below_step (below_alloc (Below.refl _ _) _) hb
  have d0 : w1.cell? ⟨w.heap.size, 0, none⟩ = some (.slice A0_0 n c0_0) := (blk_cell hbox 0).trans rfl
  have d1 : w1.cell? ⟨w.heap.size, 1, none⟩ = some (.slice A0_1 m c0_1) := (blk_cell hbox 1).trans rfl
  have q1 := lt_of_block hbox
  have HROW := Aside0.mk hrow1
  have HBOX := Aside0.mk hbox
  have HB := Aside0.mk hB1
  have HMAP : Aside0 (MapAt w1.heap.size [] (w1.alloc (.map #[] 0))) := ⟨⟨#[], 0, heap_alloc_new _ _, rfl⟩⟩
  clear ho hrow hrow1 hbox hB1 hb HY
  go_wp2_with fail
  go_loopg [5, 41] m (fun kq v5 v41 w' => ∃ (i : Nat) (slots : List Int) (lv : Int) (S : List (Int × Int)), v41 = .int .i64 i ∧ v5 = .int .i64 lv ∧ i + kq = m ∧ 0 ≤ lv ∧ lv ≤ i ∧ Aside0 (slots.length = n) ∧ Aside0 (okLoop T live (E.drop i) i slots lv S = some r) ∧
      Aside0 (w'.ownsRow (w.heap.size + 1) 2 1 (.slice (some ⟨g, 0, none⟩) n cap) n (nums .i64 slots)) ∧ Aside0 (MapAt w1.heap.size S w') ∧ Aside0 (w'.heap[w.heap.size]? = some (.cells #[.slice A0_0 n c0_0, .slice A0_1 m c0_1, .int .i64 live] 25 (0, 0))) ∧ Aside0 (Below w.heap.size w w'))
  case atStart => exact ⟨0, List.replicate n (-1), 0, [], rfl, rfl, by omega, by omega, by omega, ⟨by simp⟩, HP, ⟨HROW.out.alloc _⟩, HMAP, ⟨(Below.heap_alloc _ _ _ q1).trans HBOX.out⟩, ⟨below_alloc HB.out _⟩⟩
  case round =>
    obtain ⟨i, slots, lv, S, rfl, rfl, hik, hlv0, hlv1, HSL, H, HO, HMP, HBX, HBL⟩ := hrel
    by_cases hi : i < m
    · obtain ⟨ad1, rfl, x0, x1, x2, x3⟩ := at_T62 HR1.out (i : Int) (by omega) (by omega)
      rw [Int.toNat_natCast] at x0 x1 x2 x3
      have y0 := pw_cell_below HBL.out x0
      have y1 := pw_cell_below HBL.out x1
      have y2 := pw_cell_below HBL.out x2
      have y3 := pw_cell_below HBL.out x3
      clear x0 x1 x2 x3
      have hEi : E[i]? = some (rd_T62 E (i : Int)) := by
        have : i < E.length := by rw [HM.out]; exact hi
        simp [rd_T62, List.getElem?_eq_getElem this]
      have hdrop : E.drop i = rd_T62 E (i : Int) :: E.drop (i + 1) := by
        have hl : i < E.length := by rw [HM.out]; exact hi
        rw [List.drop_eq_getElem_cons hl]
        congr 1
        have := List.getElem?_eq_getElem hl
        rw [hEi] at this
        exact (Option.some.inj this).symm
      have hw := HWF.out _ (List.mem_of_getElem? hEi)
      have H0 := H.out
      rw [hdrop] at H0
      generalize rd_T62 E (i : Int) = e at *
      simp only [okLoop] at H0
      obtain ⟨slots', hs', H1⟩ := Option.bind_eq_some_iff.1 H0
      have HS' := Aside0.mk hs'
      have HH := Aside0.mk H1
      have HL' := Aside0.mk (probe_lay_length _ _ _ _ _ _ _ _ hs')
      have q2 := lt_of_block HBX.out
      clear hEi hdrop H0 hs' H1 H
      go_wp2_with fail
      have hsl := HSL.out
      refine (ylay_n n e.f0 i g cap (w.heap.size + 1) 1000000 slots slots' _ hsl (by omega) (by omega) hw.1 hw.2 (by omega) ?_ (by have h9 := HS'.out; rw [HN.out] at h9; exact h9)).mono ?_
      · exact HO.out.alloc _
      · rintro e' w2 ⟨rfl, ho2, hg2⟩
        have hglt : g < wr.heap.size := (HO.out.lt g rfl).2
        have hbe : w2.heap[wr.heap.size]? = some (.cells #[.int .u64 e.f0, .int .i64 e.f1, .int .i64 e.f2, .bool e.f3] 62 (0, 0)) := by
          rw [hg2.block wr.heap.size (by simp) (by simp; omega)]
          exact heap_alloc_new _ _
        have v0 : w2.cell? ⟨wr.heap.size, 0, none⟩ = some (.int .u64 e.f0) := (blk_cell hbe 0).trans rfl
        have v1 : w2.cell? ⟨wr.heap.size, 1, none⟩ = some (.int .i64 e.f1) := (blk_cell hbe 1).trans rfl
        have v2 : w2.cell? ⟨wr.heap.size, 2, none⟩ = some (.int .i64 e.f2) := (blk_cell hbe 2).trans rfl
        have v3 : w2.cell? ⟨wr.heap.size, 3, none⟩ = some (.bool e.f3) := (blk_cell hbe 3).trans rfl
        have hmlt := HMP.out.lt
        have hgm : w1.heap.size ≠ g := by have := (HROW.out.lt g rfl).2; omega
        have HMP2 : Aside0 (MapAt w1.heap.size S w2) := ⟨(HMP.out.grown (World.grownBy_alloc _ _ none) (by simp)).grown hg2 (by simpa using hgm)⟩
        have HBX2 : Aside0 (w2.heap[w.heap.size]? = some (.cells #[.slice A0_0 n c0_0, .slice (some ad1) m c0_1, .int .i64 live] 25 (0, 0))) := ⟨by
          rw [hg2.block w.heap.size (by simp; omega) (by simp; omega), Below.heap_alloc _ _ _ q2]
          exact HBX.out⟩
        have HBL2 : Aside0 (Below w.heap.size w w2) := ⟨below_grown (below_alloc HBL.out _) hg2 (fun k hk => by cases hk; omega)⟩
        have HO2 := Aside0.mk ho2
        have HSL2 : Aside0 (slots'.length = n) := ⟨by rw [HL'.out]; exact hsl⟩
        obtain ⟨kq, rfl⟩ : ∃ q, gk = q + 1 := ⟨gk - 1, by omega⟩
        have h1 := HH.out
        clear ho2 hg2 hbe hw y0 y1 y2 y3 HH HMP HBX HBL HO HS' HL' hsl HSL
        by_cases t3 : e.f3 = true
        · rw [if_pos t3] at h1
          rw [t3] at v3
          by_cases t12 : e.f1 = 0 ∧ e.f2 = 0
          · rw [if_pos t12] at h1
            have HH := Aside0.mk h1
            rw [t12.1] at v1
            rw [t12.2] at v2
            clear h1 t3 t12
            go_wp2
            go_roundg kq
            case measure => omega
            case rel => exact ⟨i + 1, slots', lv, S, rfl, rfl, by omega, hlv0, by omega, HSL2, ⟨by have := HH.out; simpa using this⟩, HO2, HMP2, HBX2, HBL2⟩
          · rw [if_neg t12] at h1
            obtain rfl := Option.some.inj h1
            clear h1 t3
            by_cases t1 : e.f1 = 0
            · have b2 : (e.f2 != 0) = true := bne_iff_ne.2 (fun h => t12 ⟨t1, h⟩)
              rw [t1] at v1
              clear t1 t12
              go_wp2
              go_ret
              exact ⟨rfl, HBL2.out⟩
            · have b1 : (e.f1 != 0) = true := bne_iff_ne.2 t1
              clear t1 t12
              go_wp2
              go_ret
              exact ⟨rfl, HBL2.out⟩
        · have t3b : e.f3 = false := by simpa using t3
          rw [if_neg t3] at h1
          rw [t3b] at v3
          have hlk0 := lookup_run HMP2.out (e.f0, e.f1)
          by_cases tm : (e.f0, e.f1) ∈ S
          · rw [if_pos tm] at h1
            obtain rfl := Option.some.inj h1
            have hlk : (Instr.lookup 80 (.map (some w1.heap.size)) (.agg #[.int .u64 e.f0, .int .i64 e.f1]) false).run Try.prog w2 = .ok (.bool true) w2 := by
              have := hlk0
              simp only [tm, decide_true] at this
              exact this
            clear h1 t3 t3b hlk0 tm
            go_wp2
            go_ret
            exact ⟨rfl, HBL2.out⟩
          · rw [if_neg tm] at h1
            have hlk : (Instr.lookup 80 (.map (some w1.heap.size)) (.agg #[.int .u64 e.f0, .int .i64 e.f1]) false).run Try.prog w2 = .ok (.bool false) w2 := by
              have := hlk0
              simp only [tm, decide_false] at this
              exact this
            obtain ⟨w3, hup0, hmp3, hg3⟩ := update_run HMP2.out (e.f0, e.f1) tm
            have hup : (Instr.mapUpdate 80 (.map (some w1.heap.size)) (.agg #[.int .u64 e.f0, .int .i64 e.f1]) (.bool true)).run Try.prog w2 = .ok () w3 := hup0
            have HH := Aside0.mk h1
            have q3 := lt_of_block HBX2.out
            have HMP3 := Aside0.mk hmp3
            have HBX3 : Aside0 (w3.heap[w.heap.size]? = some (.cells #[.slice A0_0 n c0_0, .slice (some ad1) m c0_1, .int .i64 live] 25 (0, 0))) := ⟨by
              rw [hg3.block w.heap.size q3 (by simp; omega)]
              exact HBX2.out⟩
            have HBL3 : Aside0 (Below w.heap.size w w3) := ⟨below_grown HBL2.out hg3 (fun k hk => by cases hk; omega)⟩
            have HO3 : Aside0 (w3.ownsRow (w.heap.size + 1) 2 1 (.slice (some ⟨g, 0, none⟩) n cap) n (nums .i64 slots')) := ⟨HO2.out.kept hg3 (Or.inr (by simp [Value.ownBlock]; omega))⟩
            have hbe3 : w3.heap[wr.heap.size]? = w2.heap[wr.heap.size]? := hg3.block wr.heap.size (World.block_lt_of_cell? w2 _ v0) (by simp; omega)
            clear h1 t3 t3b hlk0 tm hup0 hmp3 hg3 hbe3
            go_wp2
            go_roundg kq
            case measure => omega
            case rel => exact ⟨i + 1, slots', lv + 1, S ++ [(e.f0, e.f1)], rfl, rfl, by omega, by omega, by omega, HSL2, ⟨by have := HH.out; simpa using this⟩, HO3, HMP3, HBX3, HBL3⟩
    · have him : i = m := by omega
      have hdr : E.drop i = [] := List.drop_of_length_le (by rw [HM.out]; omega)
      have hr := H.out
      rw [hdr] at hr
      simp only [okLoop] at hr
      have HRR := Aside0.mk (Option.some.inj hr)
      clear hr hdr H
      go_wp2_with fail
      go_loopg [79] n (fun kq v79 w' => ∃ j : Nat, v79 = .int .i64 j ∧ j + kq = n ∧ Aside0 (slots.take j = T.take j) ∧ Aside0 (w'.ownsRow (w.heap.size + 1) 2 1 (.slice (some ⟨g, 0, none⟩) n cap) n (nums .i64 slots)) ∧
          Aside0 (w'.heap[w.heap.size]? = some (.cells #[.slice A0_0 n c0_0, .slice A0_1 m c0_1, .int .i64 live] 25 (0, 0))) ∧ Aside0 (Below w.heap.size w w'))
      case atStart => exact ⟨0, rfl, by omega, ⟨by simp⟩, HO, HBX, HBL⟩
      case round =>
        obtain ⟨j, rfl, hjk, HT, HO2, HBX2, HBL2⟩ := hrel
        have hsl := HSL.out
        have hTl := HN.out
        clear HO HBX HBL HMP
        by_cases hj : j < n
        · obtain ⟨ad0, rfl, x0⟩ := Kd.at_int HR0.out (j : Int) (by omega) (by omega)
          rw [Int.toNat_natCast] at x0
          have y0 := pw_cell_below HBL2.out x0
          clear x0
          have y1 : wr.cell? ⟨g, j, none⟩ = some (.int .i64 (rd slots (j : Int))) := by
            rw [HO2.out.cellAt j (by omega)]
            simp [nums, rd, List.getElem?_eq_getElem (show j < slots.length by omega)]
          have d3 : wr.cell? ⟨w.heap.size, 0, none⟩ = some (.slice (some ad0) n c0_0) := (blk_cell HBX2.out 0).trans rfl
          have hs1 : slots[j]? = some (rd slots (j : Int)) := by simp [rd, List.getElem?_eq_getElem (show j < slots.length by omega)]
          have hs2 : T[j]? = some (rd T (j : Int)) := by simp [rd, List.getElem?_eq_getElem (show j < T.length by omega)]
          obtain ⟨kq, rfl⟩ : ∃ q, gk = q + 1 := ⟨gk - 1, by omega⟩
          have HS1 := Aside0.mk hs1
          have HS2 := Aside0.mk hs2
          clear hs1 hs2 hsl hTl
          by_cases heq : rd slots (j : Int) = rd T (j : Int)
          · have HE := Aside0.mk heq
            have hb : (rd slots (j : Int) != rd T (j : Int)) = false := by rw [heq]; simp
            generalize rd slots (j : Int) = p1 at *
            generalize rd T (j : Int) = p2 at *
            clear heq
            go_wp2
            go_quiet (fail)
            go_wp2
            go_roundg kq
            case measure => omega
            case rel => exact ⟨j + 1, rfl, by omega, ⟨by rw [List.take_add_one, List.take_add_one, HT.out, HS1.out, HS2.out, HE.out]⟩, ⟨HO2.out⟩, ⟨HBX2.out⟩, ⟨pw_below_drewN HBL2.out _⟩⟩
          · have hne : slots ≠ T := fun h => heq (by rw [h])
            have hr : r = false := by rw [← HRR.out]; simp [hne]
            have hb : (rd slots (j : Int) != rd T (j : Int)) = true := bne_iff_ne.2 heq
            subst hr
            generalize rd slots (j : Int) = p1 at *
            generalize rd T (j : Int) = p2 at *
            clear heq hne
            go_wp2
            go_quiet (fail)
            go_wp2
            go_ret
            exact ⟨rfl, pw_below_drewN HBL2.out _⟩
        · have heq : slots = T := by
            have := HT.out
            rw [List.take_of_length_le (by omega), List.take_of_length_le (by omega)] at this
            exact this
          have hr : r = (lv == live) := by rw [← HRR.out, heq]; simp
          have d4 : wr.cell? ⟨w.heap.size, 2, none⟩ = some (.int .i64 live) := (blk_cell HBX2.out 2).trans rfl
          have HF := Aside0.mk hr
          clear heq hr hsl hTl
          go_wp2
          go_ret
          rw [HF.out]
          exact ⟨rfl, HBL2.out⟩

theorem impl_DictOk.calls (A0_0 : Option Addr) (c0_0 : Nat) (l0_0 : List Int) (A0_1 : Option Addr) (c0_1 : Nat) (l0_1 : List S62) (a0_2 : Int) (r : Bool) (w : World) (hr0_0 : Kd.C (Kd.int .i64) w A0_0 l0_0.length l0_0) (hc0_0 : l0_0.length ≤ c0_0) (hr0_1 : Kd.C k62 w A0_1 l0_1.length l0_1) (hc0_1 : l0_1.length ≤ c0_1)
    (h : impl_DictOk.f l0_0 l0_1 a0_2 = some r) :
    Calls Try.prog 22 #[.agg #[.slice A0_0 l0_0.length c0_0, .slice A0_1 l0_1.length c0_1, .int .i64 a0_2]] w fun e w' => e = .returned (.bool r) ∧ Below w.heap.size w w' := by
  unfold impl_DictOk.f at h
  split at h
  · rename_i hc
    split at h
    · rename_i hs
      obtain ⟨hs1, hs2⟩ := hs
      simp only [sizeOk, Bool.and_eq_true, decide_eq_true_eq, beq_iff_eq] at hs1
      exact dictok_main A0_0 c0_0 l0_0 A0_1 c0_1 l0_1 a0_2 r w hr0_0 hr0_1 (by omega) (by omega) hs1.2 hs2 hc.1 h
    · rename_i hs
      obtain rfl := Option.some.inj h
      exact dictok_small A0_0 c0_0 l0_0 A0_1 c0_1 l0_1 a0_2 w hc.2.1 hc.2.2 hs
  · simp at h

end Go.Proofs.Ytohilfkdfcihgaa.PDi
