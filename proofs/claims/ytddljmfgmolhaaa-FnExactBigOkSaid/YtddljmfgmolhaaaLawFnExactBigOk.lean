/- ROW BY gprint: the statement on loop.example/g00009/laws.FnExactBigOk: at every input it returns true and each argument reads as before. No condition. -/
import Derived.Test.YtddljmfgmolhaaaRows
import Derived.Test.YtddljmfgmolhaaaPBigx2
import Derived.Test.YtddljmfgmolhaaaPureFnExactBigOk
import Derived.Test.YtddljmfgmolhaaaOpen
import Derived.WalkKit
import Derived.ProofKit
import Derived.OpenShut
import Derived.ShutString
import Derived.ChangeOld
import Derived.Below
import Derived.SizedLaws
namespace Go.Proofs.Ytddljmfgmolhaaa.fnExactBigOk
open Go.ChangeShapes Go.WideShapes Go.ChangeAt Go.RowKit
open Go.ChangeMaps (open_string shut_string)
open Go.Proofs.YtddljmfgmolhaaaW.PrintWords Go.Proofs.Ytddljmfgmolhaaa.Open Go.Proofs.Ytddljmfgmolhaaa.PBig
set_option linter.unusedVariables false
set_option linter.unusedSimpArgs false
theorem own : ownKnob Try.prog.godebug = none := by kernel_rfl
theorem laidOut : laidOutB Try.prog = true := by kernel_rfl
set_option maxHeartbeats 1000000 in
set_option maxRecDepth 100000 in
theorem lifted (os : Os) (started : os.Started) (H : Type) (enc : TypeId × Value → H) :
    ReturnsInHanded {} Try.checked os 4 .any (Rows.fnExactBigOkSpec.pre6 enc Try.prog Try.f4 Rows.fnExactBigOkRow.domain false) (Rows.fnExactBigOkSpec.post enc Try.prog Try.f4 false true false false) := by
  refine returnsInHanded_of_change_sized (C := Try.checked) own started (by kernel_rfl) Try.func4
    (ChangeSpec.witness6 (enc := enc) (C := Try.checked) false ⟨#[], #[.agg #[.bool false, .slice none 0 0]], []⟩ 8 (by kernel_rfl) (by kernel_rfl) (by kernel_rfl) (by kernel_rfl)) ?_
  intro W base args ds gs before hval0 hW hcnd hsz0 _
  have hsz : (DataW.weightsEach Try.prog (Try.f4.params.toList ++ Rows.fnExactBigOkSpec.plain.varTypes Try.prog) (ds ++ gs)).all (· ≤ reachBytes) = true := hsz0
  have hval : ∀ (j : Nat) t v, Try.f4.params[j]? = some t → args[j]? = some v → Value.okWide Try.prog W .any base t v := hval0
  have hW' := hW
  obtain ⟨p, q, hA0, hV, rfl, hfz, hnd⟩ := hW
  have hA : DataW.TrodAll enc Try.prog W 0 (fun _ => true) true Try.f4.params.toList args.toList ds p := hA0
  rw [Try.params4] at hA hval hsz
  obtain ⟨v0, vs0, d0, ds0, p0, q0, hargs, rfl, rfl, h0, r0⟩ := trodAll_cons hA
  obtain ⟨rfl, rfl, rfl⟩ := trodAll_nil r0
  obtain rfl : args = #[v0] := by cases args; simp_all
  obtain ⟨rfl, rfl⟩ := trodVars_none hV
  have k0 := h0
  have lt0 : ∀ x ∈ p0, x.block < W.heap.size := by obtain ⟨m, hm⟩ := k0; exact DataW.trod_lt m _ _ _ hm
  obtain ⟨cs0, rfl, _⟩ := okWide_struct Try.underlying25 (hval 0 25 v0 rfl rfl)
  obtain ⟨cs0⟩ := cs0
  obtain ⟨⟨a0_0, l0_1⟩, hK0, ⟨g0_0, g0_1⟩⟩ := (opens_struct (f := id) (b := id) Try.underlying25 (by kernel_rfl) (fun _ => rfl) (opensF_cons rfl (opens_bool Try.underlying4 (by kernel_rfl)) (opensF_one rfl (opens_slice Try.underlying23 (by kernel_rfl) (B := 4) (by kernel_rfl) (opens_int Try.underlying46 (by kernel_rfl)))))).arg (j := 0) (t := 25) k0 hsz rfl rfl
  have hK0' := hK0
  simp only [Value.cells, Kd.iso, Kd.pair, id] at hK0'
  clear hK0
  obtain ⟨_, _, e0, rfl, ⟨A0_1, c0_1, rfl, hc0_1, hr0_1⟩⟩ := hK0'
  simp only [List.cons_append, List.nil_append, Array.toList] at e0
  subst e0
  clear hA0 hval0 hsz0 hsz
  obtain ⟨kk, h⟩ := Pure.FnExactBigOk a0_0 l0_1 g0_1
  refine (laws_FnExactBigOk.calls kk a0_0 A0_1 c0_1 l0_1 true W hr0_1 hc0_1 h).mono ?_
  rintro e W' ⟨he, bel0⟩
  have bel : Below W.heap.size W W' := bel0
  subst he
  exact ⟨_, rfl, _, _, _, [], _, [], hW', trodAll_mk1 (shut_bool Try.underlying4 _), (trodAll_cons_mk (Below.trod laidOut (by kernel_rfl) (of_decide_eq_true (by kernel_rfl)) k0 bel lt0) trodAll_mk0), rfl, bel.frame _, fun h => by cases h⟩
theorem over : Rows.fnExactBigOkRow.holds Try.pinned (OpenSpec.ofChange Rows.fnExactBigOkSpec) :=
  OpenClaim.holds_of_wide 4 Try.f4 rfl rfl rfl rfl rfl rfl rfl ⟨rfl, rfl, rfl, rfl, rfl⟩ rfl rfl rfl rfl rfl (by kernel_rfl) Try.func4 (by kernel_rfl)
    (of_decide_eq_true (by kernel_rfl)) (by unfold Func.isWrapper; first | (rw [if_pos (by decide +kernel)]; kernel_rfl) | (rw [if_neg (by decide +kernel)]; exact ⟨rfl, rfl⟩))
    (fun os started H enc _ => lifted os started H enc)
theorem proved : Rows.FnExactBigOkSaid := over
#print axioms proved
end Go.Proofs.Ytddljmfgmolhaaa.fnExactBigOk
namespace Go.Proofs.Ytddljmfgmolhaaa
/-- The row, under a short name, for the claim. -/
theorem fnExactBigOk_holds : Rows.FnExactBigOkSaid := fnExactBigOk.proved
end Go.Proofs.Ytddljmfgmolhaaa
