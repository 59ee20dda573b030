/- What Mro and MroFits of the program come to. No condition beyond those of the theorems. -/
import Derived.Test.YtkclfbmgnhmkhaaGLin
import Derived.Test.YtkclfbmgnhmkhaaPCx8
namespace Go.Proofs.Ytkclfbmgnhmkhaa.PC
open Go.RowKit Go.Proofs.YtkclfbmgnhmkhaaW.PrintWords Go.Proofs.YtkclfbmgnhmkhaaW.PrintLast Go.Proofs.YtkclfbmgnhmkhaaW.PrintMore
set_option linter.unusedVariables false
set_option linter.unusedSimpArgs false

theorem S_imp {α : Type} {d d' : Kd α} (hs : d.sz = d'.sz) (h : ∀ w base ok x cs, d.M w base ok x cs → d'.M w base ok x cs) {e : Nat} {w : World} {base : Nat} {ok : Nat → Prop} {v : Value} {xs : List α} (hr : Kd.S d e w base ok v xs) : Kd.S d' e w base ok v xs := by
  obtain ⟨f, hr⟩ := hr
  exact ⟨f, Kd.R_imp (d := Kd.tag f d) (d' := Kd.tag f d') hs (fun w base ok x cs hm => h w base _ x.1 cs hm) hr⟩
theorem S_kN {e : Nat} {w : World} {base : Nat} {ok : Nat → Prop} {v : Value} {xs : List (List Int)} (h : Kd.S kN e w base ok v xs) : Kd.S (Kd.slice 2 (Kd.int .i64)) e w base ok v xs :=
  S_imp (d := kN) (d' := Kd.slice 2 (Kd.int .i64)) rfl (fun w base ok x cs hm => by
    have hm : ∃ v, cs = [v] ∧ (Kd.int .i64).R 2 w base ok v x ∧ (x = [] → v = .slice none 0 0) := hm
    obtain ⟨v, e1, e2, _⟩ := hm
    exact ⟨v, e1, e2⟩) h
theorem nil_form {w : World} {L : List Int} {A : Option Addr} {c : Nat} (h1 : RdL w ⟨A, L.length, c⟩ L) (h2 : L = [] → A = none ∧ c = 0) : A.isNone = L.isEmpty := by
  by_cases e : L = []
  · obtain ⟨rfl, _⟩ := h2 e
    subst e
    rfl
  · obtain ⟨a1, e1, _⟩ := Kd.at_int h1.2.2 0 (by omega) (by have := List.length_pos_iff.2 e; simpa using this)
    obtain rfl : A = some a1 := e1
    cases L with
    | nil => exact absurd rfl e
    | cons => rfl

def mroRes : List (List Int) → List (List Int) → Nat → List (List Int) × Int
  | ls, [], _ => (ls, -1)
  | ls, L :: r, i => if L.isEmpty = true then ([], (i : Int)) else mroRes ls r (i + 1)
def impl_Mro.f (l0 : List S41) : Option (List (List Int) × Int) :=
  (impl_ClassesOk.f l0).bind fun ok => if ok = false then some ([], -2) else (impl_ylines.f l0).bind fun ls => if ls.length ≤ 1000000 then some (mroRes ls ls 0) else none
theorem mroRes_drop (ls L : List (List Int)) (i : Nat) (h : i < L.length) : mroRes ls (L.drop i) i = if (L.getD i []).isEmpty = true then ([], (i : Int)) else mroRes ls (L.drop (i + 1)) (i + 1) := by
  rw [List.drop_eq_getElem_cons h, mroRes, List.getD_eq_getElem?_getD, List.getElem?_eq_getElem h]
  rfl

set_option maxHeartbeats 8000000 in
set_option maxRecDepth 1000000 in
theorem impl_Mro.calls (A0 : Option Addr) (c0 : Nat) (l0 : List S41) (r1 : List (List Int)) (r2 : Int) (w : World) (hr0 : Kd.C k41 w A0 l0.length l0) (hc0 : l0.length ≤ c0) (h : impl_Mro.f l0 = some (r1, r2)) :
    Calls Try.prog 18 #[.slice A0 l0.length c0] w fun e w' => ∃ v0_ : Value, e = .returned (.tuple #[v0_, .int .i64 r2]) ∧ Kd.S (Kd.slice 2 (Kd.int .i64)) 37 w' w.heap.size (fun _ => True) v0_ r1 ∧ Below w.heap.size w w' := by
  unfold impl_Mro.f at h
  obtain ⟨ok, hok, h⟩ := Option.bind_eq_some_iff.1 h
  have C0 := Aside0.mk (fun W (hW : Kd.C k41 W A0 l0.length l0) => impl_ClassesOk.calls A0 c0 l0 ok W hW hc0 hok)
  have HC0 := Aside0.mk hr0
  clear hok hr0
  have CY := Aside0.mk (fun ls W (hW : Kd.C k41 W A0 l0.length l0) hl => ylines_calls A0 c0 l0 ls W hW hc0 hl)
  generalize l0.length = n at *
  cases ok with
  | false =>
    rw [if_pos rfl] at h
    have h := Option.some.inj h
    simp only [Prod.mk.injEq] at h
    obtain ⟨rfl, rfl⟩ := h
    go_enter Try.func18, Try.ntmps18
    go_wp2_with fail
    refine (C0.out _ HC0.out).mono ?_
    rintro e w2 ⟨rfl, hb⟩
    go_wp2
    go_ret2
    exact ⟨_, rfl, Kd.S_nil _ _ _ _ _, hb⟩
  | true =>
    rw [if_neg (by decide)] at h
    obtain ⟨ls, hls, h⟩ := Option.bind_eq_some_iff.1 h
    have C3 := Aside0.mk (fun W hW => CY.out ls W hW hls)
    clear hls CY
    split at h
    case isFalse => simp at h
    rename_i hlt
    have HRES := Aside0.mk (Option.some.inj h)
    clear h
    go_enter Try.func18, Try.ntmps18
    go_wp2_with fail
    refine (C0.out _ HC0.out).mono ?_
    rintro e w2 ⟨rfl, hb⟩
    have HB := Aside0.mk hb
    clear hb
    go_wp2_with fail
    refine (C3.out _ (Kd.C_below HC0.out HB.out)).mono ?_
    rintro e w4 ⟨v, rfl, hS, hb⟩
    obtain ⟨Ao, co, rfl⟩ := Kd.S_slice hS
    have HS := Aside0.mk (Kd.S_lower hS HB.out.size)
    have HB2 := Aside0.mk (below_step HB.out hb)
    clear hb HB hS C0 C3
    have HB := HB2
    clear HB2
    obtain ⟨m, hm⟩ : ∃ m, ls.length = m := ⟨_, rfl⟩
    have HM := Aside0.mk hm
    rw [hm] at HS hlt ⊢
    clear hm
    go_wp2_with fail
    go_loopg [13] m (fun kq v13 w' => ∃ i : Nat, v13 = .int .i64 i ∧ i + kq = m ∧ Aside0 (mroRes ls (ls.drop i) i = (r1, r2)) ∧ Aside0 (Kd.S kN 37 w' w.heap.size (fun _ => True) (.slice Ao m co) ls) ∧ Aside0 (Below w.heap.size w w'))
    case atStart => exact ⟨0, rfl, by omega, ⟨by rw [List.drop_zero]; exact HRES.out⟩, HS, HB⟩
    case round =>
      clear HS HB HRES
      obtain ⟨i, rfl, hik, HRES, HS, HB⟩ := hrel
      by_cases hi : i < m
      · obtain ⟨kq, rfl⟩ : ∃ q, gk = q + 1 := ⟨gk - 1, by omega⟩
        obtain ⟨ao, A1, c1, rfl, z0, z1, z2⟩ := kN_at (Kd.S_reads' HS.out).2.2 i (by first | omega | (rw [HM.out]; omega))
        have hiL : i < ls.length := by rw [HM.out]; exact hi
        have hnf := nil_form z1 z2
        have hrr := HRES.out
        rw [mroRes_drop ls ls i hiL, ← hnf] at hrr
        have HRES2 := Aside0.mk hrr
        clear z1 z2 hnf hiL HRES hrr
        have heql := eql37 A1 (ls.getD i []).length c1
        generalize (ls.getD i []).length = q at *
        generalize A1.isNone = bb at *
        cases bb with
        | true =>
          have h := HRES2.out
          rw [if_pos rfl] at h
          simp only [Prod.mk.injEq] at h
          obtain ⟨rfl, rfl⟩ := h
          clear HRES2
          go_wp2
          go_ret2
          exact ⟨_, rfl, Kd.S_nil _ _ _ _ _, HB.out⟩
        | false =>
          have h := HRES2.out
          rw [if_neg (by decide)] at h
          have HRES := Aside0.mk h
          clear h HRES2
          go_wp2_with fail
          go_roundg kq
          case measure => omega
          case rel => exact ⟨i + 1, by first | rfl | simp, by omega, HRES, HS, HB⟩
      · have him : i = m := by omega
        subst him
        have h := HRES.out
        rw [List.drop_eq_nil_iff.2 (by rw [HM.out]; exact Nat.le_refl _), mroRes] at h
        simp only [Prod.mk.injEq] at h
        obtain ⟨rfl, rfl⟩ := h
        clear HRES
        go_wp2
        go_ret2
        exact ⟨_, rfl, S_kN HS.out, HB.out⟩

end Go.Proofs.Ytkclfbmgnhmkhaa.PC
