/- What ClassesOk and yunlike of the program come to. No condition beyond those of the theorems. -/
import Derived.Test.YtkclfbmgnhmkhaaPCx0
import Derived.Test.YtkclfbmgnhmkhaaGMapB
import Derived.BigQuiet
namespace Go.Proofs.Ytkclfbmgnhmkhaa.PC
open Go.RowKit Go.Proofs.YtkclfbmgnhmkhaaW.PrintWords Go.Proofs.YtkclfbmgnhmkhaaW.PrintLast Go.Proofs.YtkclfbmgnhmkhaaW.PrintMore Go.Proofs.Ytkclfbmgnhmkhaa.MapB
set_option linter.unusedVariables false
set_option linter.unusedSimpArgs false

theorem zero4 (w : World) : (zeroValue 4).run Try.prog w = .ok (.bool false) w := by kernel_rfl
theorem k87 : KeyKind Try.prog 87 9 4 .string (fun x : ByteArray => Value.string x) := strKind Try.underlying87 Try.underlying9 zero4
theorem k64 : KeyKind Try.prog 64 2 4 (.int .i64) (fun x : Int => Value.int .i64 x) := intKind Try.underlying64 Try.underlying2 zero4
abbrev encS : ByteArray → Value := fun x => Value.string x
abbrev encI : Int → Value := fun x => Value.int .i64 x

def namesOf (l : List S48) : List ByteArray := l.map (·.f0)
def impl_yunlike.f (l : List S48) : Option Bool := if l.length ≤ 1000000000000 then some (decide ((namesOf l).Nodup ∧ l.length ≤ 100)) else none

theorem rd48 (l : List S48) (i : Nat) (h : i < l.length) : rd_T48 l (i : Int) = l[i] := by simp [rd_T48, List.getD_eq_getElem?_getD, List.getElem?_eq_getElem h]
theorem below_grow {w w1 w2 : World} {g : Nat} (h : Below w.heap.size w w1) (hg : w1.grownBy w2 (some g)) (hr : w.heap.size ≤ g) : Below w.heap.size w w2 :=
  h.grown hg h.size (fun k hk => by injection hk with hk; omega)

theorem names_take (l : List S48) (i : Nat) (h : i < l.length) : namesOf (l.take (i + 1)) = namesOf (l.take i) ++ [l[i].f0] := by
  unfold namesOf
  rw [List.take_add_one, List.getElem?_eq_getElem h, List.map_append]
  rfl
theorem nodup_snoc {α : Type} {S : List α} {x : α} : (S ++ [x]).Nodup ↔ S.Nodup ∧ x ∉ S := by
  rw [List.nodup_append]
  constructor
  · rintro ⟨h1, _, h2⟩
    exact ⟨h1, fun hx => h2 x hx x (by simp) rfl⟩
  · rintro ⟨h1, h2⟩
    exact ⟨h1, by simp, fun a ha b hb e => by simp at hb; subst hb; subst e; exact h2 ha⟩
theorem nodup_take {l : List S48} {i : Nat} (h : ¬ (namesOf (l.take i)).Nodup) : ¬ (namesOf l).Nodup := by
  intro hn
  apply h
  have : namesOf l = namesOf (l.take i) ++ namesOf (l.drop i) := by unfold namesOf; rw [← List.map_append, List.take_append_drop]
  rw [this, List.nodup_append] at hn
  exact hn.1

set_option maxHeartbeats 2000000 in
set_option maxRecDepth 1000000 in
theorem impl_yunlike.calls (A0 : Option Addr) (c0 : Nat) (l0 : List S48) (r : Bool) (w : World) (hr0 : k48.C w A0 l0.length l0) (hc0 : l0.length ≤ c0) (h : impl_yunlike.f l0 = some r) :
    Calls Try.prog 40 #[.slice A0 l0.length c0] w fun e w' => e = .returned (.bool r) ∧ Below w.heap.size w w' := by
  unfold impl_yunlike.f at h
  split at h
  case isFalse => simp at h
  rename_i hlen
  have h := Option.some.inj h
  have HR := Aside0.mk h
  have HC := Aside0.mk hr0
  clear h hr0
  obtain ⟨n, hn⟩ : ∃ n, l0.length = n := ⟨_, rfl⟩
  have HN := Aside0.mk hn
  rw [hn] at HR HC hlen hc0 ⊢
  clear hn
  have hmm := @run_makeMap Try.prog
  go_enter Try.func40, Try.ntmps40
  go_wp2_with fail
  generalize hg : w.heap.size = g at *
  have HG := Aside0.mk hg
  have HM0 := Aside0.mk (show MapAt encS g [] (w.alloc (.map #[] 0)) by rw [← hg]; exact MapAt.fresh encS w)
  have HB0 := Aside0.mk (show Below w.heap.size w (w.alloc (.map #[] 0)) from below_alloc (Below.refl _ _) _)
  have hz0 : g < (w.alloc (.map #[] 0)).heap.size := by rw [← hg]; simp
  generalize w.alloc (.map #[] 0) = w1 at *
  clear hg hmm
  go_loopg [9] n (fun kq v9 w' => ∃ i : Nat, v9 = .int .i64 i ∧ i + kq = n ∧ Aside0 (MapAt encS g (namesOf (l0.take i)) w') ∧ Aside0 (namesOf (l0.take i)).Nodup ∧ Aside0 (Below w.heap.size w w') ∧ g < w'.heap.size)
  case atStart => exact ⟨0, rfl, by omega, ⟨HM0.out⟩, ⟨List.nodup_nil⟩, HB0, hz0⟩
  case round =>
    clear HM0 HB0 hz0
    obtain ⟨i, rfl, hik, HM, HND, HB, hgz⟩ := hrel
    by_cases hi : i < n
    · obtain ⟨kq, rfl⟩ : ∃ q, gk = q + 1 := ⟨gk - 1, by omega⟩
      obtain ⟨ad, rfl, x0, x1, x2⟩ := at_T48 (Kd.C_below HC.out HB.out) (i : Int) (by omega) (by omega)
      have hiL : i < l0.length := by rw [HN.out]; exact hi
      rw [rd48 l0 i hiL, Int.toNat_natCast] at x0 x1 x2
      have HT := Aside0.mk (names_take l0 i hiL)
      obtain ⟨nm, hnm⟩ : ∃ nm, l0[i].f0 = nm := ⟨_, rfl⟩
      obtain ⟨kd, hkd⟩ : ∃ kd, l0[i].f1 = kd := ⟨_, rfl⟩
      obtain ⟨vl, hvl⟩ : ∃ vl, l0[i].f2 = vl := ⟨_, rfl⟩
      rw [hnm] at x0 HT
      rw [hkd] at x1
      rw [hvl] at x2
      clear hnm hkd hvl hiL
      have HM2 := Aside0.mk (HM.out.alloc (.cells #[.string nm, .int .i64 kd, .int .i64 vl] 48))
      have HB2 := Aside0.mk (below_alloc HB.out (.cells #[.string nm, .int .i64 kd, .int .i64 vl] 48))
      have hz2 : g < (wr.alloc (.cells #[.string nm, .int .i64 kd, .int .i64 vl] 48)).heap.size := by simp; omega
      by_cases hmem : nm ∈ namesOf (l0.take i)
      · have hlk := lookup_in k87 HM2.out nm hmem
        have hr : r = false := by
          have hno : ¬ ((namesOf l0).Nodup ∧ n ≤ 100) := fun hh => nodup_take (l := l0) (i := i + 1) (by rw [HT.out]; exact fun h2 => (nodup_snoc.1 h2).2 hmem) hh.1
          rw [← HR.out, decide_eq_false hno]
        subst hr
        clear hmem
        go_wp2
        go_ret
        exact ⟨rfl, HB2.out⟩
      · have hlk := lookup_out k87 HM2.out nm hmem
        obtain ⟨w3, hup, hM3, hg3, hs3⟩ := update_run k87 HM2.out nm hmem
        have HM3 := Aside0.mk hM3
        have HB3 := Aside0.mk (below_grow HB2.out hg3 (by rw [HG.out]; exact Nat.le_refl _))
        have HND3 := Aside0.mk (nodup_snoc.2 ⟨HND.out, hmem⟩)
        have hz3 : g < w3.heap.size := by rw [hs3]; exact hz2
        clear hM3 hg3 hs3 hmem
        go_wp2
        go_roundg kq
        case measure => omega
        case rel => exact ⟨i + 1, by first | rfl | simp, by omega, ⟨by rw [HT.out]; exact HM3.out⟩, ⟨by rw [HT.out]; exact HND3.out⟩, HB3, hz3⟩
    · have hin : i = n := by omega
      subst hin
      have hall : l0.take i = l0 := List.take_of_length_le (by rw [HN.out]; exact Nat.le_refl _)
      have HND2 := Aside0.mk (show (namesOf l0).Nodup by rw [← hall]; exact HND.out)
      have hr : decide ((i : Int) ≤ 100) = r := by
        rw [← HR.out]
        by_cases h100 : i ≤ 100
        · rw [decide_eq_true (show (namesOf l0).Nodup ∧ i ≤ 100 from ⟨HND2.out, h100⟩), decide_eq_true (by omega)]
        · rw [decide_eq_false (show ¬ ((namesOf l0).Nodup ∧ i ≤ 100) from fun hh => h100 hh.2), decide_eq_false (by omega)]
      have HRR := Aside0.mk hr
      clear hr hall
      go_wp2
      go_ret
      have e := HRR.out
      exact ⟨by rw [← e]; rfl, HB.out⟩

/-- A class at place i is right. -/
def clsOk (i : Nat) (c : S41) : Bool := decide (∀ b ∈ c.f0, 0 ≤ b ∧ b < (i : Int)) && decide c.f0.Nodup && (decide ((namesOf c.f1).Nodup ∧ c.f1.length ≤ 100)) && decide (∀ a ∈ c.f1, 0 ≤ a.f1 ∧ a.f1 ≤ 2)
def okFrom : Nat → List S41 → Bool
  | _, [] => true
  | i, c :: r => clsOk i c && okFrom (i + 1) r
def okCls (l : List S41) : Bool := decide (l.length ≤ 200) && okFrom 0 l
def impl_ClassesOk.f (l : List S41) : Option Bool := if l.length ≤ 1000000000000 ∧ ∀ c ∈ l, c.f0.length ≤ 1000000000000 ∧ c.f1.length ≤ 1000000000000 then some (okCls l) else none

theorem rd41 (l : List S41) (i : Nat) (h : i < l.length) : rd_T41 l (i : Int) = l[i] := by simp [rd_T41, List.getD_eq_getElem?_getD, List.getElem?_eq_getElem h]
theorem rdI (l : List Int) (i : Nat) (h : i < l.length) : rd l (i : Int) = l[i] := by simp [rd, List.getElem?_eq_getElem h]
theorem okFrom_drop (l : List S41) (i : Nat) (h : i < l.length) : okFrom i (l.drop i) = (clsOk i l[i] && okFrom (i + 1) (l.drop (i + 1))) := by
  rw [List.drop_eq_getElem_cons h, okFrom]
theorem gtrans {a b c : World} {row : Option Nat} (h : a.grownBy b row) (k : b.grownBy c row) : a.grownBy c row :=
  ⟨k.os.trans h.os, k.tape.trans h.tape, k.output.trans h.output, Nat.le_trans h.size k.size, fun i hi hne => (k.block i (Nat.lt_of_lt_of_le hi h.size) hne).trans (h.block i hi hne)⟩
theorem grefl (a : World) (row : Option Nat) : a.grownBy a row := ⟨rfl, rfl, rfl, Nat.le_refl _, fun _ _ _ => rfl⟩
theorem gcell {a b : World} {g : Nat} (h : a.grownBy b (some g)) {x : Addr} {v : Value} (hx : a.cell? x = some v) (hne : x.block ≠ g) : b.cell? x = some v := by
  have hlt := World.block_lt_of_cell? a x hx
  unfold World.cell? at hx ⊢
  rw [h.block x.block hlt (fun e => hne (by injection e))]
  exact hx

theorem take_snoc {α : Type} (l : List α) (i : Nat) (h : i < l.length) : l.take (i + 1) = l.take i ++ [l[i]] := by
  rw [List.take_add_one, List.getElem?_eq_getElem h]
  rfl

set_option maxHeartbeats 4000000 in
set_option maxRecDepth 1000000 in
theorem impl_ClassesOk.calls (A0 : Option Addr) (c0 : Nat) (l0 : List S41) (r : Bool) (w : World) (hr0 : k41.C w A0 l0.length l0) (hc0 : l0.length ≤ c0) (h : impl_ClassesOk.f l0 = some r) :
    Calls Try.prog 13 #[.slice A0 l0.length c0] w fun e w' => e = .returned (.bool r) ∧ Below w.heap.size w w' := by
  unfold impl_ClassesOk.f at h
  split at h
  case isFalse => simp at h
  rename_i hlen
  obtain ⟨hlen, hin⟩ := hlen
  have h := Option.some.inj h
  unfold okCls at h
  have HIN := Aside0.mk hin
  have HC := Aside0.mk hr0
  clear hr0 hin
  obtain ⟨n, hn⟩ : ∃ n, l0.length = n := ⟨_, rfl⟩
  have HN := Aside0.mk hn
  rw [hn] at h HC hlen hc0 ⊢
  clear hn
  by_cases h200 : 200 < n
  · have h200z : (200 : Int) < n := by omega
    rw [decide_eq_false (by omega), Bool.false_and] at h
    subst h
    go_enter Try.func13, Try.ntmps13
    go_wp2
    go_ret
    exact ⟨rfl, Below.refl _ _⟩
  rw [decide_eq_true (by omega), Bool.true_and] at h
  have h200z : ¬ (200 : Int) < n := by omega
  have HR := Aside0.mk h
  clear h
  have hmm := Aside0.mk (@run_makeMap Try.prog)
  go_enter Try.func13, Try.ntmps13
  go_wp2_with fail
  go_loopg [15] n (fun kq v15 w' => ∃ i : Nat, v15 = .int .i64 i ∧ i + kq = n ∧ Aside0 (okFrom i (l0.drop i) = r) ∧ Aside0 (Below w.heap.size w w'))
  case atStart => exact ⟨0, rfl, by omega, ⟨by rw [List.drop_zero]; exact HR.out⟩, ⟨Below.refl _ _⟩⟩
  case round =>
    clear HR
    obtain ⟨i, rfl, hik, HR, HB⟩ := hrel
    by_cases hi : i < n
    · obtain ⟨kq, rfl⟩ : ∃ q, gk = q + 1 := ⟨gk - 1, by omega⟩
      obtain ⟨ad, B0, d0, B1, d1, rfl, x0, x1, e0, g0, e1, g1⟩ := at_T41 (Kd.C_below HC.out HB.out) (i : Int) (by omega) (by omega)
      have hiL : i < l0.length := by rw [HN.out]; exact hi
      have hcl := HIN.out _ (List.getElem_mem hiL)
      have hrr := HR.out
      rw [okFrom_drop l0 i hiL] at hrr
      rw [rd41 l0 i hiL, Int.toNat_natCast] at x0
      rw [rd41 l0 i hiL, Int.toNat_natCast] at x1
      rw [rd41 l0 i hiL] at e0 g0 e1 g1
      obtain ⟨C, hC⟩ : ∃ C, l0[i] = C := ⟨_, rfl⟩
      rw [hC] at x0 x1 e0 g0 e1 g1 hcl hrr
      obtain ⟨bs, as_⟩ := C
      simp only at x0 x1 e0 g0 e1 g1 hcl hrr
      clear hC hiL
      have HCL := Aside0.mk hcl
      have HRR := Aside0.mk hrr
      have G0 := Aside0.mk g0
      have G1 := Aside0.mk g1
      obtain ⟨nb, hnb⟩ : ∃ nb, bs.length = nb := ⟨_, rfl⟩
      obtain ⟨na, hna⟩ : ∃ na, as_.length = na := ⟨_, rfl⟩
      have HNB := Aside0.mk hnb
      have HNA := Aside0.mk hna
      rw [hnb] at x0 e0 G0
      rw [hna] at x1 e1 G1
      clear hcl hrr g0 g1 hnb hna
      have hmm := hmm.out
      go_wp2_with fail
      obtain ⟨bx, hbx⟩ : ∃ bx, wr.heap.size = bx := ⟨_, rfl⟩
      have HBX := Aside0.mk hbx
      have HB1 := Aside0.mk (show Below wr.heap.size wr ((wr.alloc (.cells #[.slice B0 nb d0, .slice B1 na d1] 41)).alloc (.map #[] 0)) from below_alloc (below_alloc (Below.refl _ _) _) _)
      have HM1 := Aside0.mk (show MapAt encI (bx + 1) [] ((wr.alloc (.cells #[.slice B0 nb d0, .slice B1 na d1] 41)).alloc (.map #[] 0)) by
        have h1 := MapAt.fresh encI (wr.alloc (.cells #[.slice B0 nb d0, .slice B1 na d1] 41))
        rw [show (wr.alloc (.cells #[.slice B0 nb d0, .slice B1 na d1] 41)).heap.size = bx + 1 by simp [hbx]] at h1
        exact h1)
      have HX1 := Aside0.mk (show ((wr.alloc (.cells #[.slice B0 nb d0, .slice B1 na d1] 41)).alloc (.map #[] 0)).cell? ⟨bx, 1, none⟩ = some (.slice B1 na d1) by
        rw [← hbx]
        go_simp)
      have hz1 : bx + 1 < ((wr.alloc (.cells #[.slice B0 nb d0, .slice B1 na d1] 41)).alloc (.map #[] 0)).heap.size := by simp; omega
      have hwb : w.heap.size ≤ bx := by rw [← hbx]; exact HB.out.size
      rw [hbx]
      generalize (wr.alloc (.cells #[.slice B0 nb d0, .slice B1 na d1] 41)).alloc (.map #[] 0) = W1 at *
      clear hbx x0 x1 hmm
      have hbnd := HCL.out
      rw [HNB.out, HNA.out] at hbnd
      have hBAD : clsOk i ⟨bs, as_⟩ = false → false = r := fun h => by
        have := HRR.out
        rw [h, Bool.false_and] at this
        exact this
      have HBAD := Aside0.mk hBAD
      clear hBAD
      go_loopg [24] nb (fun kq2 v24 w' => ∃ j : Nat, v24 = .int .i64 j ∧ j + kq2 = nb ∧ Aside0 (MapAt encI (bx + 1) (bs.take j) w') ∧ Aside0 ((bs.take j).Nodup ∧ ∀ b ∈ bs.take j, 0 ≤ b ∧ b < (i : Int)) ∧ Aside0 (W1.grownBy w' (some (bx + 1))))
      case atStart => exact ⟨0, rfl, by omega, HM1, ⟨List.nodup_nil, by simp⟩, ⟨grefl _ _⟩⟩
      case round =>
        clear HM1
        obtain ⟨j, rfl, hjk, HM, HND, HG⟩ := hrel
        have HBw := Aside0.mk (below_grow HB1.out HG.out (by rw [HBX.out]; omega))
        have HBw0 := Aside0.mk (below_step HB.out HBw.out)
        by_cases hj : j < nb
        · obtain ⟨kq2, rfl⟩ : ∃ q, gk = q + 1 := ⟨gk - 1, by omega⟩
          obtain ⟨ae, rfl, y0⟩ := Kd.at_int (Kd.C_below G0.out HBw.out) (j : Int) (by omega) (by omega)
          have hjL : j < bs.length := by rw [HNB.out]; exact hj
          rw [rdI bs j hjL, Int.toNat_natCast] at y0
          have HT := Aside0.mk (take_snoc bs j hjL)
          have hmemb : bs[j] ∈ bs := List.getElem_mem hjL
          obtain ⟨b, hb⟩ : ∃ b, bs[j] = b := ⟨_, rfl⟩
          rw [hb] at y0 HT hmemb
          have HMB := Aside0.mk hmemb
          clear hb hjL hmemb
          by_cases hneg : b < 0
          · have e := HBAD.out (by
              unfold clsOk
              rw [decide_eq_false (fun hh => by have := hh b HMB.out; omega), Bool.false_and, Bool.false_and, Bool.false_and])
            subst e
            go_wp2
            go_ret
            exact ⟨rfl, HBw0.out⟩
          · by_cases hbig : (i : Int) ≤ b
            · have e := HBAD.out (by
                unfold clsOk
                rw [decide_eq_false (fun hh => by have := hh b HMB.out; omega), Bool.false_and, Bool.false_and, Bool.false_and])
              subst e
              go_wp2
              go_ret
              exact ⟨rfl, HBw0.out⟩
            · by_cases hmem : b ∈ bs.take j
              · have hlk := lookup_in k64 HM.out b hmem
                have e := HBAD.out (by
                  have hnd : ¬ bs.Nodup := fun hh => by
                    have h1 : bs = bs.take (j + 1) ++ bs.drop (j + 1) := (List.take_append_drop _ _).symm
                    rw [h1, List.nodup_append, HT.out] at hh
                    exact (nodup_snoc.1 hh.1).2 hmem
                  unfold clsOk
                  rw [decide_eq_false hnd, Bool.and_false, Bool.false_and, Bool.false_and])
                subst e
                clear hmem
                go_wp2
                go_ret
                exact ⟨rfl, HBw0.out⟩
              · have hlk := lookup_out k64 HM.out b hmem
                obtain ⟨w3, hup, hM3, hg3, hs3⟩ := update_run k64 HM.out b hmem
                have HM3 := Aside0.mk hM3
                have HG3 := Aside0.mk (gtrans HG.out hg3)
                have HND3 := Aside0.mk (show (bs.take (j + 1)).Nodup ∧ ∀ x ∈ bs.take (j + 1), 0 ≤ x ∧ x < (i : Int) by
                  rw [HT.out]
                  refine ⟨nodup_snoc.2 ⟨HND.out.1, hmem⟩, fun x hx => ?_⟩
                  rcases List.mem_append.1 hx with hx | hx
                  · exact HND.out.2 x hx
                  · rw [List.mem_singleton.1 hx]
                    omega)
                clear hM3 hg3 hs3 hmem
                go_wp2
                go_roundg kq2
                case measure => omega
                case rel => exact ⟨j + 1, by first | rfl | simp, by omega, ⟨by rw [HT.out]; exact HM3.out⟩, HND3, HG3⟩
        · have hjn : j = nb := by omega
          subst hjn
          have hallb : bs.take bs.length = bs := List.take_length
          have HNDA := Aside0.mk (show bs.Nodup ∧ ∀ b ∈ bs, 0 ≤ b ∧ b < (i : Int) by
            have := HND.out
            rw [← HNB.out, hallb] at this
            exact this)
          clear hallb
          have x1 := gcell HG.out HX1.out (by simp)
          have hbz : bx < wr.heap.size := by have := HG.out.size; omega
          have cY : ∀ v, decide ((namesOf as_).Nodup ∧ as_.length ≤ 100) = v → Calls Try.prog 40 #[.slice B1 na d1] wr fun e w' => e = .returned (.bool v) ∧ Below wr.heap.size wr w' := fun v hv => by
            have h1 := impl_yunlike.calls B1 d1 as_ v wr (by rw [HNA.out]; exact Kd.C_below G1.out HBw.out) (by rw [HNA.out]; exact e1) (by unfold impl_yunlike.f; rw [if_pos (by have := HNA.out; omega), hv])
            rw [HNA.out] at h1
            exact h1
          cases hY : decide ((namesOf as_).Nodup ∧ as_.length ≤ 100) with
          | false =>
            have cY := cY _ hY
            have e := HBAD.out (by
              unfold clsOk
              rw [hY, Bool.and_false, Bool.false_and])
            subst e
            clear hY
            go_wp2_with fail
            refine cY.mono ?_
            rintro e w5 ⟨rfl, hb5⟩
            have HB5 := Aside0.mk (below_step HBw0.out hb5)
            clear hb5 cY
            go_wp2
            go_ret
            exact ⟨rfl, HB5.out⟩
          | true =>
            have cY := cY _ hY
            have HY := Aside0.mk hY
            clear hY
            go_wp2_with fail
            refine cY.mono ?_
            rintro e w5 ⟨rfl, hb5⟩
            have HB5 := Aside0.mk (below_step HBw0.out hb5)
            have HBw5 := Aside0.mk (below_step HBw.out hb5)
            have x2 := pw_cell_below hb5 x1
            have hbz5 : bx < w5.heap.size := by have := hb5.size; omega
            clear hb5 cY x1 hbz HM HG HBw HBw0
            have hKB : (∀ a ∈ as_, 0 ≤ a.f1 ∧ a.f1 ≤ 2) → okFrom (i + 1) (l0.drop (i + 1)) = r := fun hk => by
              have h1 := HRR.out
              unfold clsOk at h1
              rw [decide_eq_true HNDA.out.2, decide_eq_true HNDA.out.1, HY.out, decide_eq_true hk] at h1
              simpa using h1
            have HKB := Aside0.mk hKB
            clear hKB
            go_wp2_with fail
            go_loopg [50] na (fun kq3 v50 w' => ∃ j : Nat, v50 = .int .i64 j ∧ j + kq3 = na ∧ Aside0 (∀ a ∈ as_.take j, 0 ≤ a.f1 ∧ a.f1 ≤ 2) ∧ Aside0 (Below w5.heap.size w5 w'))
            case atStart => exact ⟨0, rfl, by omega, ⟨by simp⟩, ⟨Below.refl _ _⟩⟩
            case round =>
              obtain ⟨j, rfl, hjk, HK, HB6⟩ := hrel
              have HBw6 := Aside0.mk (below_step HBw5.out HB6.out)
              have HBo6 := Aside0.mk (below_step HB5.out HB6.out)
              by_cases hj : j < na
              · obtain ⟨kq3, rfl⟩ : ∃ q, gk = q + 1 := ⟨gk - 1, by omega⟩
                obtain ⟨ae, rfl, y0, y1, y2⟩ := at_T48 (Kd.C_below G1.out HBw6.out) (j : Int) (by omega) (by omega)
                have hjL : j < as_.length := by rw [HNA.out]; exact hj
                rw [rd48 as_ j hjL, Int.toNat_natCast] at y0 y1 y2
                have HT := Aside0.mk (take_snoc as_ j hjL)
                have hmema : as_[j] ∈ as_ := List.getElem_mem hjL
                obtain ⟨at_, hat⟩ : ∃ at_, as_[j] = at_ := ⟨_, rfl⟩
                rw [hat] at y0 y1 y2 HT hmema
                have HMA := Aside0.mk hmema
                obtain ⟨an, ak, av⟩ := at_
                simp only at y0 y1 y2
                clear hat hjL hmema
                by_cases hneg : ak < 0
                · have e := HBAD.out (by
                    unfold clsOk
                    rw [decide_eq_false (show ¬ (∀ a ∈ as_, 0 ≤ a.f1 ∧ a.f1 ≤ 2) from fun hh => by have := hh _ HMA.out; simp only at this; omega), Bool.and_false])
                  subst e
                  go_wp2
                  go_ret
                  exact ⟨rfl, below_alloc HBo6.out _⟩
                · by_cases hbig : 2 < ak
                  · have e := HBAD.out (by
                      unfold clsOk
                      rw [decide_eq_false (show ¬ (∀ a ∈ as_, 0 ≤ a.f1 ∧ a.f1 ≤ 2) from fun hh => by have := hh _ HMA.out; simp only at this; omega), Bool.and_false])
                    subst e
                    go_wp2
                    go_ret
                    exact ⟨rfl, below_alloc HBo6.out _⟩
                  · have HK3 := Aside0.mk (show ∀ a ∈ as_.take (j + 1), 0 ≤ a.f1 ∧ a.f1 ≤ 2 by
                      rw [HT.out]
                      intro x hx
                      rcases List.mem_append.1 hx with hx | hx
                      · exact HK.out x hx
                      · rw [List.mem_singleton.1 hx]
                        simp only
                        omega)
                    have HB7 := Aside0.mk (below_alloc HB6.out (.cells #[.string an, .int .i64 ak, .int .i64 av] 48))
                    go_wp2
                    go_roundg kq3
                    case measure => omega
                    case rel => exact ⟨j + 1, by first | rfl | simp, by omega, HK3, HB7⟩
              · have hjn : j = na := by omega
                subst hjn
                have e := HKB.out (by
                  have h1 := HK.out
                  rw [← HNA.out, List.take_length] at h1
                  exact h1)
                have HE := Aside0.mk e
                clear e
                go_wp2
                go_roundg kq
                case measure => omega
                case rel => exact ⟨i + 1, by first | rfl | simp, by omega, HE, HBo6⟩
    · have hin : i = n := by omega
      subst hin
      have hd : l0.drop i = [] := List.drop_eq_nil_iff.2 (by rw [HN.out]; exact Nat.le_refl _)
      have e := HR.out
      rw [hd] at e
      have e : true = r := e
      subst e
      clear hd
      go_wp2
      go_ret
      exact ⟨rfl, HB.out⟩

end Go.Proofs.Ytkclfbmgnhmkhaa.PC
