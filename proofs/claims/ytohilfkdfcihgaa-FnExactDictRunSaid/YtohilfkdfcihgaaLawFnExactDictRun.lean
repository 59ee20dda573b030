/- ROW BY gprint: the statement on loop.example/g00009/laws.FnExactDictRun: at every input it returns true and each argument reads as before. No condition. -/
import Derived.Test.YtohilfkdfcihgaaRows
import Derived.Test.YtohilfkdfcihgaaPDrx5
import Derived.Test.YtohilfkdfcihgaaPureFnExactDictRun
import Derived.Test.YtohilfkdfcihgaaOpen
import Derived.WalkKit
import Derived.ProofKit
import Derived.OpenShut
import Derived.ShutString
import Derived.ChangeOld
import Derived.Below
import Derived.SizedLaws
namespace Go.Proofs.Ytohilfkdfcihgaa.fnExactDictRun
open Go.ChangeShapes Go.WideShapes Go.ChangeAt Go.RowKit
open Go.ChangeMaps (open_string shut_string)
open Go.Proofs.YtohilfkdfcihgaaW.PrintWords Go.Proofs.Ytohilfkdfcihgaa.Open Go.Proofs.Ytohilfkdfcihgaa.PDi
set_option linter.unusedVariables false
set_option linter.unusedSimpArgs false
theorem own : ownKnob Try.prog.godebug = none := by kernel_rfl
theorem laidOut : laidOutB Try.prog = true := by kernel_rfl
set_option maxHeartbeats 1000000 in
set_option maxRecDepth 100000 in
theorem lifted (os : Os) (started : os.Started) (H : Type) (enc : TypeId × Value → H) :
    ReturnsInHanded {} Try.checked os 7 .any (Rows.fnExactDictRunSpec.pre6 enc Try.prog Try.f7 Rows.fnExactDictRunRow.domain false) (Rows.fnExactDictRunSpec.post enc Try.prog Try.f7 false true false false) := by
  refine returnsInHanded_of_change_sized (C := Try.checked) own started (by kernel_rfl) Try.func7
    (ChangeSpec.witness6 (enc := enc) (C := Try.checked) false ⟨#[], #[.slice none 0 0], []⟩ 8 (by kernel_rfl) (by kernel_rfl) (by kernel_rfl) (by kernel_rfl)) ?_
  intro W base args ds gs before hval0 hW hcnd hsz0 _
  have hsz : (DataW.weightsEach Try.prog (Try.f7.params.toList ++ Rows.fnExactDictRunSpec.plain.varTypes Try.prog) (ds ++ gs)).all (· ≤ reachBytes) = true := hsz0
  have hval : ∀ (j : Nat) t v, Try.f7.params[j]? = some t → args[j]? = some v → Value.okWide Try.prog W .any base t v := hval0
  have hW' := hW
  obtain ⟨p, q, hA0, hV, rfl, hfz, hnd⟩ := hW
  have hA : DataW.TrodAll enc Try.prog W 0 (fun _ => true) true Try.f7.params.toList args.toList ds p := hA0
  rw [Try.params7] at hA hval hsz
  obtain ⟨v0, vs0, d0, ds0, p0, q0, hargs, rfl, rfl, h0, r0⟩ := trodAll_cons hA
  obtain ⟨rfl, rfl, rfl⟩ := trodAll_nil r0
  obtain rfl : args = #[v0] := by cases args; simp_all
  obtain ⟨rfl, rfl⟩ := trodVars_none hV
  have k0 := h0
  have lt0 : ∀ x ∈ p0, x.block < W.heap.size := by obtain ⟨m, hm⟩ := k0; exact DataW.trod_lt m _ _ _ hm
  obtain ⟨a0, len0, cap0, rfl⟩ := okWide_slice Try.underlying48 (hval 0 48 v0 rfl rfl)
  obtain ⟨l0, ⟨A0, c0, e0, hc0, hr0⟩, g0⟩ := (opens_slice Try.underlying48 (by kernel_rfl) (B := 32) (by kernel_rfl) (opens_struct (β := S86) (f := fun x => (x.f0, x.f1, x.f2, x.f3)) (b := fun p => ⟨p.1, p.2.1, p.2.2.1, p.2.2.2⟩) Try.underlying86 (by kernel_rfl) (fun _ => rfl) (opensF_cons rfl (opens_int Try.underlying2 (by kernel_rfl)) (opensF_cons rfl (opens_int Try.underlying35 (by kernel_rfl)) (opensF_cons rfl (opens_int Try.underlying2 (by kernel_rfl)) (opensF_one rfl (opens_int Try.underlying2 (by kernel_rfl)))))))).arg (j := 0) (t := 48) k0 hsz rfl rfl
  simp [Value.cells] at e0
  obtain ⟨rfl, rfl, rfl⟩ := e0
  clear hA0 hval0 hsz0 hsz
  obtain ⟨kk, h⟩ := Pure.FnExactDictRun l0 g0
  refine (laws_FnExactDictRun.calls kk a0 cap0 l0 true W hr0 hc0 h).mono ?_
  rintro e W' ⟨he, bel0⟩
  have bel : Below W.heap.size W W' := bel0
  subst he
  exact ⟨_, rfl, _, _, _, [], _, [], hW', trodAll_mk1 (shut_bool Try.underlying4 _), (trodAll_cons_mk (Below.trod laidOut (by kernel_rfl) (of_decide_eq_true (by kernel_rfl)) k0 bel lt0) trodAll_mk0), rfl, bel.frame _, fun h => by cases h⟩
theorem over : Rows.fnExactDictRunRow.holds Try.pinned (OpenSpec.ofChange Rows.fnExactDictRunSpec) :=
  OpenClaim.holds_of_wide 7 Try.f7 rfl rfl rfl rfl rfl rfl rfl ⟨rfl, rfl, rfl, rfl, rfl⟩ rfl rfl rfl rfl rfl (by kernel_rfl) Try.func7 (by kernel_rfl)
    (of_decide_eq_true (by kernel_rfl)) (by unfold Func.isWrapper; first | (rw [if_pos (by decide +kernel)]; kernel_rfl) | (rw [if_neg (by decide +kernel)]; exact ⟨rfl, rfl⟩))
    (fun os started H enc _ => lifted os started H enc)
theorem proved : Rows.FnExactDictRunSaid := over
#print axioms proved
end Go.Proofs.Ytohilfkdfcihgaa.fnExactDictRun
namespace Go.Proofs.Ytohilfkdfcihgaa
/-- The row, under a short name, for the claim. -/
theorem fnExactDictRun_holds : Rows.FnExactDictRunSaid := fnExactDictRun.proved
end Go.Proofs.Ytohilfkdfcihgaa
