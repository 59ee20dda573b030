/- Go functions as Lean functions, and that each Go function comes to just that; printed by a program of this session (gprint.py over the kit's print.py). No condition. -/
import Derived.Test.YtghjbadanhplnaaPFx0
import Derived.Test.YtghjbadanhplnaaPFx1
import Derived.Test.YtghjbadanhplnaaPFx3
import Derived.Test.YtghjbadanhplnaaPFx4
import Derived.Test.YtghjbadanhplnaaGFlo
namespace Go.Proofs.Ytghjbadanhplnaa.PF
open Go.RowKit Go.Proofs.YtghjbadanhplnaaW.PrintWords Go.Proofs.YtghjbadanhplnaaW.PrintLast Go.Proofs.YtghjbadanhplnaaW.PrintMore
attribute [local go_sem] max2_int min2_int max_two min_two max_three min_three max_four min_four   -- for this text's walks alone
set_option linter.unusedVariables false
set_option linter.unusedSimpArgs false

/-! ### spec_FloatCmp: function 6 -/
mutual
def spec_FloatCmp.j0 : Nat → Int → Int → Bool → Option (Int)
 | 0, _, _, _ => none
 | k + 1, x0, x1, x10 => if x10 = true then (some 2) else ((spec_l2IsInf.f x0).bind fun t265 => (if t265 = true then (spec_FloatCmp.j1 k x0 x1 true) else ((spec_l2IsInf.f x1).bind fun t266 => (spec_FloatCmp.j1 k x0 x1 t266))))
def spec_FloatCmp.j1 : Nat → Int → Int → Bool → Option (Int)
 | 0, _, _, _ => none
 | k + 1, x0, x1, x16 => if x16 = true then (if x0 = x1 then (some 0) else (if x0 = 9218868437227405312 then (spec_FloatCmp.j2 k true) else (spec_FloatCmp.j2 k (x1 == 18442240474082181120)))) else ((spec_l2Whole.f k x0).bind fun bt267 => ((spec_l2Whole.f k x1).bind fun bt271 => ((spec_l2Order.f k bt267.1 bt267.2 bt271.1 bt271.2).bind fun t275 => (some t275))))
def spec_FloatCmp.j2 : Nat → Bool → Option (Int)
 | 0, _ => none
 | k + 1, x25 => if x25 = true then (some 1) else (some (-1))
end
def spec_FloatCmp.f (k : Nat) (a0 : Int) (a1 : Int) : Option (Int) := (spec_l2IsNan.f a0).bind fun t263 => (if t263 = true then (spec_FloatCmp.j0 k a0 a1 true) else ((spec_l2IsNan.f a1).bind fun t264 => (spec_FloatCmp.j0 k a0 a1 t264)))
-- GIVEN: function 7 (impl_FloatCmp)

/-! ### laws_FnExactFloatCmp: function 3 -/
def laws_FnExactFloatCmp.f (k : Nat) (a0 : Int) (a1 : Int) : Option (Bool) := (spec_FloatCmp.f k a0 a1).bind fun t276 => ((impl_FloatCmp.f a0 a1).bind fun t277 => (if t277 = t276 then (some true) else (none)))
/-- THE ONE PURE STATEMENT of laws_FnExactFloatCmp: yours. -/
def laws_FnExactFloatCmp.Pure : Prop := ∀ (a0 : Int) (a1 : Int), (Lit.int .u64 a0).wf = true → (Lit.int .u64 a1).wf = true → ∃ k, laws_FnExactFloatCmp.f k a0 a1 = some true
end Go.Proofs.Ytghjbadanhplnaa.PF
