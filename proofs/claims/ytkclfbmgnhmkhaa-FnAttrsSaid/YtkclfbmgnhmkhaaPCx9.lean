/- Go functions as Lean functions, and that each Go function comes to just that; printed by a program of this session (gprint.py over the kit's print.py). No condition. -/
import Derived.Test.YtkclfbmgnhmkhaaPCx0
import Derived.Test.YtkclfbmgnhmkhaaGLin
namespace Go.Proofs.Ytkclfbmgnhmkhaa.PC
open Go.RowKit Go.Proofs.YtkclfbmgnhmkhaaW.PrintWords Go.Proofs.YtkclfbmgnhmkhaaW.PrintLast Go.Proofs.YtkclfbmgnhmkhaaW.PrintMore
attribute [local go_sem] max2_int min2_int max_two min_two max_three min_three max_four min_four   -- for this text's walks alone
set_option linter.unusedVariables false
set_option linter.unusedSimpArgs false



def rd_L1 (xs : List (List Int)) (i : Int) : (List Int) := xs.getD i.toNat ([] : List Int)
theorem at_L1 {w : World} {A : Option Addr} {n : Nat} {xs : List (List Int)} (h : Kd.C (Kd.slice 2 (Kd.int .i64)) w A n xs) (i : Int) (h0 : 0 ≤ i) (h1 : i < n) : ∃ ad A0 c0, A = some ad ∧ w.cell? (ad.add i.toNat) = some (.slice A0 (rd_L1 xs i).length c0) ∧ (rd_L1 xs i).length ≤ c0 ∧ (Kd.int .i64).C w A0 (rd_L1 xs i).length (rd_L1 xs i) := by
  obtain ⟨ad, c, e, _, hK, hc0⟩ := Kd.C_get h ([] : List Int) i h0 h1
  have hc : ∀ j u, c[j]? = some u → w.cell? (ad.add (i.toNat * 1 + j)) = some u := hc0
  obtain ⟨A0, c0, rfl, l0, g0⟩ := hK
  exact ⟨ad, A0, c0, e, by have hq := hc 0 _ rfl; rwa [Nat.mul_one, Nat.add_zero] at hq, l0, g0⟩

theorem fld48_0 (a : ByteArray) (b c : Int) (W : World) : (Instr.field 48 (.agg #[.string a, .int .i64 b, .int .i64 c]) 0).run Try.prog W = .ok (.string a) W := by
  first | rfl | (simp [Instr.field, run_underlying Try.underlying48]; rfl)
theorem fld48_1 (a : ByteArray) (b c : Int) (W : World) : (Instr.field 48 (.agg #[.string a, .int .i64 b, .int .i64 c]) 1).run Try.prog W = .ok (.int .i64 b) W := by
  first | rfl | (simp [Instr.field, run_underlying Try.underlying48]; rfl)
theorem fld48_2 (a : ByteArray) (b c : Int) (W : World) : (Instr.field 48 (.agg #[.string a, .int .i64 b, .int .i64 c]) 2).run Try.prog W = .ok (.int .i64 c) W := by
  first | rfl | (simp [Instr.field, run_underlying Try.underlying48]; rfl)
end Go.Proofs.Ytkclfbmgnhmkhaa.PC
