/- What FloatCmp of the program comes to. No condition beyond those of the theorems. -/
import Derived.Test.YtghjbadanhplnaaPFx0
import Derived.Laws.Externs
import Derived.Laws.Cover2
namespace Go.Proofs.Ytghjbadanhplnaa.PF
open Go.RowKit Go.Proofs.YtghjbadanhplnaaW.PrintWords Go.Proofs.YtghjbadanhplnaaW.PrintLast
set_option linter.unusedVariables false
set_option linter.unusedSimpArgs false

theorem call16 (a : Int) (w : World) : (callFunc 16 #[.int .u64 a]).run Try.prog w = .ok (.value (.float .f64 a.toNat)) w := by
  rw [run_callFunc_extern Try.func16 (by kernel_rfl) (by kernel_rfl) (by kernel_rfl) (e := Extern.MathFloatBits.float64frombits) (by kernel_rfl)]
  rfl
attribute [local go_sem] call16
def cmpF (x y : Nat) : Int :=
  if (FloatKind.f64.format.order x x != some .eq) = true then 2 else if (FloatKind.f64.format.order y y != some .eq) = true then 2 else
    if (FloatKind.f64.format.order x y == some .lt) = true then -1 else if (FloatKind.f64.format.order x y == some .gt) = true then 1 else 0
def impl_FloatCmp.f (a0 a1 : Int) : Option Int := some (cmpF a0.toNat a1.toNat)

set_option maxHeartbeats 4000000 in
set_option maxRecDepth 100000 in
theorem impl_FloatCmp.calls (a0 : Int) (a1 : Int) (r : Int) (w : World) (h : impl_FloatCmp.f a0 a1 = some r) :
    Calls Try.prog 7 #[.int .u64 a0, .int .u64 a1] w fun e w' => e = .returned (.int .i64 r) ∧ Below w.heap.size w w' := by
  have h := Option.some.inj h
  unfold cmpF at h
  generalize hx : a0.toNat = x at *
  generalize hy : a1.toNat = y at *
  cases e1 : (FloatKind.f64.format.order x x != some .eq) with
  | true =>
    rw [e1, if_pos rfl] at h
    subst h
    go_enter Try.func7, Try.ntmps7
    go_wp2
    go_ret
    exact ⟨rfl, Below.refl _ _⟩
  | false =>
    rw [e1, if_neg (by decide)] at h
    cases e2 : (FloatKind.f64.format.order y y != some .eq) with
    | true =>
      rw [e2, if_pos rfl] at h
      subst h
      go_enter Try.func7, Try.ntmps7
      go_wp2
      go_ret
      exact ⟨rfl, Below.refl _ _⟩
    | false =>
      rw [e2, if_neg (by decide)] at h
      cases e3 : (FloatKind.f64.format.order x y == some .lt) with
      | true =>
        rw [e3, if_pos rfl] at h
        subst h
        go_enter Try.func7, Try.ntmps7
        go_wp2
        go_ret
        exact ⟨rfl, Below.refl _ _⟩
      | false =>
        rw [e3, if_neg (by decide)] at h
        cases e4 : (FloatKind.f64.format.order x y == some .gt) with
        | true =>
          rw [e4, if_pos rfl] at h
          subst h
          go_enter Try.func7, Try.ntmps7
          go_wp2
          go_ret
          exact ⟨rfl, Below.refl _ _⟩
        | false =>
          rw [e4, if_neg (by decide)] at h
          subst h
          go_enter Try.func7, Try.ntmps7
          go_wp2
          go_ret
          exact ⟨rfl, Below.refl _ _⟩

end Go.Proofs.Ytghjbadanhplnaa.PF
