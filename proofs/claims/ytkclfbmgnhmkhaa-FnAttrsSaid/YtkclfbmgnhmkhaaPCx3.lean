/- Go functions as Lean functions, and that each Go function comes to just that; printed by a program of this session (gprint.py over the kit's print.py). No condition. -/
import Derived.Test.YtkclfbmgnhmkhaaPCx0
import Derived.Test.YtkclfbmgnhmkhaaPCx2
namespace Go.Proofs.Ytkclfbmgnhmkhaa.PC
open Go.RowKit Go.Proofs.YtkclfbmgnhmkhaaW.PrintWords Go.Proofs.YtkclfbmgnhmkhaaW.PrintLast Go.Proofs.YtkclfbmgnhmkhaaW.PrintMore
attribute [local go_sem] max2_int min2_int max_two min_two max_three min_three max_four min_four   -- for this text's walks alone
set_option linter.unusedVariables false
set_option linter.unusedSimpArgs false

/-! ### laws_toClass: function 39 -/
def laws_toClass.f (k : Nat) (l0_0 : List Int) (l0_1 : List (S81)) : Option (List Int × (List (S48))) := (laws_toInt64S.f k l0_0).bind fun t139 => ((laws_toAttrS.f k l0_1).bind fun t142 => (some (t139, t142)))
/-! ### laws_toClassS: function 12 -/
def laws_toClassS.l0 : Nat → List (S61) → List (S41) → Int → Option ((List (S41)))
 | 0, _, _, _ => none
 | k + 1, x0, x3, x4 => if x4 < (x0.length : Int) then (if 0 ≤ x4 then ((laws_toClass.f k ((rd_T61 x0 x4).f0) ((rd_T61 x0 x4).f1)).bind fun bt149 => (if x4 < (x3.length : Int) then (laws_toClassS.l0 k x0 (x3.set (x4 : Int).toNat (⟨bt149.1, bt149.2⟩ : S41)) (wrap64 (x4 + 1))) else (none))) else (none)) else (some x3)
def laws_toClassS.f (k : Nat) (l0 : List (S61)) : Option ((List (S41))) := if 0 ≤ (l0.length : Int) then (if ((l0.length : Int) : Int).toNat ≤ 5864062014805 then (laws_toClassS.l0 k l0 (List.replicate ((l0.length : Int) : Int).toNat z41) 0) else (none)) else (none)
-- GIVEN: function 13 (impl_ClassesOk)

/-! ### laws_eqAttr: function 55 -/
def laws_eqAttr.f (a0_0 : ByteArray) (a0_1 : Int) (a0_2 : Int) (a1_0 : ByteArray) (a1_1 : Int) (a1_2 : Int) : Option (Bool) := if a0_0.toList = a1_0.toList then (if a0_1 = a1_1 then (if a0_2 = a1_2 then (some true) else (some false)) else (some false)) else (some false)
/-! ### laws_eqAttrS: function 28 -/
def laws_eqAttrS.l0 : Nat → List (S48) → List (S48) → Int → Option (Bool)
 | 0, _, _, _ => none
 | k + 1, x0, x1, x5 => if x5 < (x0.length : Int) then (if 0 ≤ x5 then (if x5 < (x1.length : Int) then ((laws_eqAttr.f ((rd_T48 x0 x5).f0) ((rd_T48 x0 x5).f1) ((rd_T48 x0 x5).f2) ((rd_T48 x1 x5).f0) ((rd_T48 x1 x5).f1) ((rd_T48 x1 x5).f2)).bind fun t160 => (if t160 = true then (laws_eqAttrS.l0 k x0 x1 (wrap64 (x5 + 1))) else (some false))) else (none)) else (none)) else (some true)
def laws_eqAttrS.f (k : Nat) (l0 : List (S48)) (l1 : List (S48)) : Option (Bool) := if (l0.length : Int) = (l1.length : Int) then (laws_eqAttrS.l0 k l0 l1 0) else (some false)
def laws_eqAttrS.T6 : Bool × List (List Nat × List Nat) := (true, [([], []), ([], []), ([0, 1], [0, 1]), ([2], [2]), ([], []), ([], []), ([4, 5], [4, 5]), ([6], [6]), ([3, 7], [3, 7]), ([8], [8])])
def laws_eqAttrS.B6 : List Nat := [0, 0, 3, 7, 0, 0, 48, 112, 255, 511]
theorem laws_eqAttrS.tab6 : rtab .any (opsOf Try.f28 6) = laws_eqAttrS.T6 := by kernel_rfl
theorem laws_eqAttrS.bits6 : waitsOk laws_eqAttrS.T6.2 laws_eqAttrS.B6 = true := by kernel_rfl
/-! ### laws_eqInt64S: function 58 -/
def laws_eqInt64S.l0 : Nat → List Int → List Int → Int → Option (Bool)
 | 0, _, _, _ => none
 | k + 1, x0, x1, x5 => if x5 < (x0.length : Int) then (if 0 ≤ x5 then (if x5 < (x1.length : Int) then (if (rd x0 x5) = (rd x1 x5) then (laws_eqInt64S.l0 k x0 x1 (wrap64 (x5 + 1))) else (some false)) else (none)) else (none)) else (some true)
def laws_eqInt64S.f (k : Nat) (l0 : List Int) (l1 : List Int) : Option (Bool) := if (l0.length : Int) = (l1.length : Int) then (laws_eqInt64S.l0 k l0 l1 0) else (some false)
/-! ### laws_eqClass: function 41 -/
def laws_eqClass.f (k : Nat) (l0_0 : List Int) (l0_1 : List (S48)) (l1_0 : List Int) (l1_1 : List (S48)) : Option (Bool) := (laws_eqInt64S.f k l0_0 l1_0).bind fun t165 => (if t165 = true then ((laws_eqAttrS.f k l0_1 l1_1).bind fun t166 => (if t166 = true then (some true) else (some false))) else (some false))
end Go.Proofs.Ytkclfbmgnhmkhaa.PC
