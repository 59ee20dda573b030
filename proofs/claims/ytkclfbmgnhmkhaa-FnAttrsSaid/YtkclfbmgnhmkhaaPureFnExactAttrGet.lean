/- At every input the program's AttrGet answers as the reference's. Plain law; no condition beyond the size of what is handed in. -/
import Derived.Test.YtkclfbmgnhmkhaaAttG
namespace Go.Proofs.Ytkclfbmgnhmkhaa.Pure
open Go.RowKit Go.Proofs.Ytkclfbmgnhmkhaa.PC Go.Proofs.YtkclfbmgnhmkhaaW.PrintWords Go.Proofs.YtkclfbmgnhmkhaaW.PrintLast

def ansG (o : Option S48) (O : List S48) (n : ByteArray) : Int × Int := match o with
  | none => (match O.find? (hit n) with | some b => (1, b.f2) | none => (0, 0))
  | some a => if a.f1 = 1 then (3, a.f2) else (match O.find? (hit n) with | some b => (1, b.f2) | none => if a.f1 = 2 then (3, a.f2) else (2, a.f2))
theorem spec_side (O : List S48) (n : ByteArray) (k : Nat) (hN : (∃ t, ∃ ht : t < O.length, spec_l9Named.f k O n = some (t : Int) ∧ O.find? (hit n) = some O[t]) ∨ (spec_l9Named.f k O n = some (-1) ∧ O.find? (hit n) = none))
    (o : Option S48) (ho : ∀ a, o = some a → 0 ≤ a.f1 ∧ a.f1 ≤ 2) (q : ByteArray × Int × Int) (hq : firstS o = q) :
    (if q.2.1 = 1 then (some ((3 : Int), q.2.2)) else ((spec_l9Named.f k O n).bind fun t178 => (if t178 ≥ 0 then (if 0 ≤ t178 then (if t178 < (O.length : Int) then (some (1, (rd_T48 O t178).f2)) else (none)) else (none)) else (if q.2.1 = 2 then (some (3, q.2.2)) else (if q.2.1 = 0 then (some (2, q.2.2)) else (some (0, 0))))))) = some (ansG o O n) := by
  cases o with
  | none =>
    subst hq
    have e1 : (firstS none).2.1 = -1 := rfl
    rw [e1, if_neg (by decide)]
    unfold ansG
    rcases hN with ⟨t, ht, f1, f2⟩ | ⟨f1, f2⟩
    · rw [f1, f2, Option.bind_some, if_pos (by omega), if_pos (by omega), if_pos (by omega), rd48 _ t ht]
    · rw [f1, f2, Option.bind_some, if_neg (by omega), if_neg (by decide), if_neg (by decide)]
  | some a =>
    have hk := ho a rfl
    subst hq
    have e1 : (firstS (some a)).2.1 = a.f1 := rfl
    have e2 : (firstS (some a)).2.2 = a.f2 := rfl
    rw [e1, e2]
    rw [show ansG (some a) O n = ((if a.f1 = 1 then (3, a.f2) else (match O.find? (hit n) with | some b => (1, b.f2) | none => if a.f1 = 2 then (3, a.f2) else (2, a.f2))) : Int × Int) from rfl]
    by_cases ek : a.f1 = 1
    · rw [if_pos ek, if_pos ek]
    · rw [if_neg ek, if_neg ek]
      rcases hN with ⟨t, ht, f1, f2⟩ | ⟨f1, f2⟩
      · rw [f1, f2, Option.bind_some, if_pos (by omega), if_pos (by omega), if_pos (by omega), rd48 _ t ht]
      · rw [f1, f2, Option.bind_some, if_neg (by omega)]
        by_cases e3 : a.f1 = 2
        · rw [if_pos e3, if_pos e3]
        · rw [if_neg e3, if_pos (by omega), if_neg e3]
theorem impl_side (O : List S48) (n : ByteArray) (k : Nat) (hL : ∀ (fd : Bool) (p : ByteArray) (kd v : Int), impl_AttrGet.l0 k n fd O (O.length : Int) 0 p kd v = some (match O.find? (hit n) with | some a => (1, a.f2) | none => if fd = true then (if kd = 2 then (3, v) else (2, v)) else (0, 0)))
    (o : Option S48) (q : ByteArray × Int × Int × Bool × Bool) (hq : resOf o = q) :
    (if q.2.2.2.2 = true then (if q.2.2.2.1 = true then (impl_AttrGet.j0 (k + 1) O n q.2.2.2.1 (q.2.1 == 1) q.1 q.2.1 q.2.2.1) else (impl_AttrGet.j0 (k + 1) O n q.2.2.2.1 false q.1 q.2.1 q.2.2.1)) else (some ((-1), 0))) = some (ansG o O n) := by
  cases o with
  | none =>
    subst hq
    have e1 : (resOf none).2.2.2.1 = false := rfl
    have e0 : (resOf none).2.2.2.2 = true := rfl
    rw [if_pos e0, e1, if_neg (by decide), impl_AttrGet.j0, if_neg (by decide), hL]
    unfold ansG
    rw [if_neg (show ¬ (false = true) by decide)]
  | some a =>
    subst hq
    have e1 : (resOf (some a)).2.2.2.1 = true := rfl
    have e2 : (resOf (some a)).2.1 = a.f1 := rfl
    have e3 : (resOf (some a)).2.2.1 = a.f2 := rfl
    have e0 : (resOf (some a)).2.2.2.2 = true := rfl
    rw [if_pos e0, e1, if_pos rfl, e2, e3, impl_AttrGet.j0, hL]
    rw [show ansG (some a) O n = ((if a.f1 = 1 then (3, a.f2) else (match O.find? (hit n) with | some b => (1, b.f2) | none => if a.f1 = 2 then (3, a.f2) else (2, a.f2))) : Int × Int) from rfl]
    by_cases ek : a.f1 = 1
    · rw [if_pos (by simpa using ek), if_pos ek]
    · rw [if_neg (by simpa using ek), if_neg ek, if_pos rfl]

theorem FnExactAttrGet : ∀ (l0 : List (S61)) (a1 : Int) (l2 : List (S81)) (a3 : ByteArray), (l0.length * 48 ≤ 140737488351232 ∧ ∀ x0 ∈ l0, ((x0.f0.length * 8 ≤ 140737488351232 ∧ ∀ x1 ∈ x0.f0, (Lit.int .i64 x1).wf = true) ∧ (x0.f1.length * 32 ≤ 140737488351232 ∧ ∀ x1 ∈ x0.f1, (x1.f0.size ≤ 140737488351232 ∧ ((Lit.int .i64 x1.f1).wf = true ∧ (Lit.int .i64 x1.f2).wf = true))))) → (Lit.int .i64 a1).wf = true → (l2.length * 32 ≤ 140737488351232 ∧ ∀ x0 ∈ l2, (x0.f0.size ≤ 140737488351232 ∧ ((Lit.int .i64 x0.f1).wf = true ∧ (Lit.int .i64 x0.f2).wf = true))) → a3.size ≤ 140737488351232 → ∃ k, laws_FnExactAttrGet.f k l0 a1 l2 a3 = some true := by
  intro l0 a1 l2 a3 h ha h2 h3
  obtain ⟨s1, s2⟩ := small_of h
  refine ⟨22000000, ?_⟩
  unfold laws_FnExactAttrGet.f
  by_cases hs3 : (a3.size : Int) > 1048576
  · rw [if_pos hs3]
  rw [if_neg hs3]
  obtain ⟨r, e, hrle, hr⟩ := szC_some l0 s1 s2 22000000 (by omega)
  rw [e, Option.bind_some]
  by_cases hneg : r < 0
  · rw [if_pos hneg]
  obtain ⟨h1, hin⟩ := hr.resolve_left hneg
  rw [if_neg hneg]
  obtain ⟨r2, e2, _, hr2⟩ := szA_some l2 (fun y hy => by have := (h2.2 y hy).1; omega) (by have := h2.1; omega) r (by omega) (by omega) 22000000 (by omega)
  rw [e2, Option.bind_some]
  by_cases hneg2 : r2 < 0
  · rw [if_pos hneg2]
  have h4 := hr2.resolve_left hneg2
  have hs := toC_small hin
  have hl : (l0.map toC).length ≤ 1048576 := by rw [List.length_map]; exact h1
  have hol : (l2.map toA).length ≤ 1048576 := by rw [List.length_map]; exact h4
  rw [if_neg hneg2, toCS_some l0 h1 hin 22000000 (by omega), Option.bind_some, toAS_some l2 (by omega) 22000000 (by omega), Option.bind_some]
  have key : ∃ v, spec_AttrGet.f 22000000 (l0.map toC) a1 (l2.map toA) a3 = some v ∧ impl_AttrGet.f 22000000 (l0.map toC) a1 (l2.map toA) a3 = some v := by
    unfold spec_AttrGet.f impl_AttrGet.f
    rcases args_same (l0.map toC) (l2.map toA) a3 a1 (by omega) (fun c hc => by have := hs c hc; omega) (by omega) 22000000 (by omega) with ⟨x, e5, e6⟩ | ⟨line, e5, e6, h7, h8, h9⟩
    · rw [e5, e6]
      exact ⟨(-1, 0), rfl, rfl⟩
    · have hok := args_ok _ _ a1 (by omega) (fun c hc => by have := hs c hc; omega) 22000000 (by omega) line e5
      have hkind := first_kind (l0.map toC) a3 (cls_kinds hok) line h8
      rw [e5, e6, Option.bind_some, Option.bind_some, if_pos rfl, first_some _ line a3 (by omega) h8 h9 22000000 (by omega), Option.bind_some]
      have hL := fun fd p kd v => get_loop a3 fd (l2.map toA) p kd v (by omega) (l2.map toA).length 21999999 0 (by omega) (by omega)
      simp only [List.drop_zero] at hL
      have hN := named_some (l2.map toA) a3 (by omega) 22000000 (by omega)
      generalize l2.map toA = O at *
      refine ⟨ansG (firstAt (l0.map toC) a3 line) O a3, spec_side O a3 22000000 hN _ hkind _ rfl, impl_side O a3 21999999 hL _ _ rfl⟩
  obtain ⟨v, e7, e8⟩ := key
  rw [e7, Option.bind_some, Option.bind_some, Option.bind_some, e8, Option.bind_some, if_pos rfl, bne_self_eq_false, laws_FnExactAttrGet.j0, if_neg (by decide), toCS_some l0 h1 hin 21999999 (by omega), Option.bind_some, eqC_some _ hl hs 21999999 (by omega), Option.bind_some, if_pos rfl, toAS_some l2 (by omega) 21999999 (by omega), Option.bind_some, eqA_some _ (by omega) 21999999 (by omega), Option.bind_some, if_pos rfl]

end Go.Proofs.Ytkclfbmgnhmkhaa.Pure
