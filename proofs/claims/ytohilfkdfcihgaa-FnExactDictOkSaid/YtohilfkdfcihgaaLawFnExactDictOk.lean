/- ROW BY gprint: the statement on loop.example/g00009/laws.FnExactDictOk: at every input it returns true and each argument reads as before. No condition. -/
import Derived.Test.YtohilfkdfcihgaaRows
import Derived.Test.YtohilfkdfcihgaaPDix5
import Derived.Test.YtohilfkdfcihgaaPureFnExactDictOk
import Derived.Test.YtohilfkdfcihgaaOpen
import Derived.WalkKit
import Derived.ProofKit
import Derived.OpenShut
import Derived.ShutString
import Derived.ChangeOld
import Derived.Below
import Derived.SizedLaws
namespace Go.Proofs.Ytohilfkdfcihgaa.fnExactDictOk
open Go.ChangeShapes Go.WideShapes Go.ChangeAt Go.RowKit
open Go.ChangeMaps (open_string shut_string)
open Go.Proofs.YtohilfkdfcihgaaW.PrintWords Go.Proofs.Ytohilfkdfcihgaa.Open Go.Proofs.Ytohilfkdfcihgaa.PDi
set_option linter.unusedVariables false
set_option linter.unusedSimpArgs false
theorem own : ownKnob Try.prog.godebug = none := by kernel_rfl
theorem laidOut : laidOutB Try.prog = true := by kernel_rfl
set_option maxHeartbeats 1000000 in
set_option maxRecDepth 100000 in
theorem lifted (os : Os) (started : os.Started) (H : Type) (enc : TypeId × Value → H) :
    ReturnsInHanded {} Try.checked os 5 .any (Rows.fnExactDictOkSpec.pre6 enc Try.prog Try.f5 Rows.fnExactDictOkRow.domain false) (Rows.fnExactDictOkSpec.post enc Try.prog Try.f5 false true false false) := by
  refine returnsInHanded_of_change_sized (C := Try.checked) own started (by kernel_rfl) Try.func5
    (ChangeSpec.witness6 (enc := enc) (C := Try.checked) false ⟨#[], #[.agg #[.slice none 0 0, .slice none 0 0, .int .i64 0]], []⟩ 8 (by kernel_rfl) (by kernel_rfl) (by kernel_rfl) (by kernel_rfl)) ?_
  intro W base args ds gs before hval0 hW hcnd hsz0 _
  have hsz : (DataW.weightsEach Try.prog (Try.f5.params.toList ++ Rows.fnExactDictOkSpec.plain.varTypes Try.prog) (ds ++ gs)).all (· ≤ reachBytes) = true := hsz0
  have hval : ∀ (j : Nat) t v, Try.f5.params[j]? = some t → args[j]? = some v → Value.okWide Try.prog W .any base t v := hval0
  have hW' := hW
  obtain ⟨p, q, hA0, hV, rfl, hfz, hnd⟩ := hW
  have hA : DataW.TrodAll enc Try.prog W 0 (fun _ => true) true Try.f5.params.toList args.toList ds p := hA0
  rw [Try.params5] at hA hval hsz
  obtain ⟨v0, vs0, d0, ds0, p0, q0, hargs, rfl, rfl, h0, r0⟩ := trodAll_cons hA
  obtain ⟨rfl, rfl, rfl⟩ := trodAll_nil r0
  obtain rfl : args = #[v0] := by cases args; simp_all
  obtain ⟨rfl, rfl⟩ := trodVars_none hV
  have k0 := h0
  have lt0 : ∀ x ∈ p0, x.block < W.heap.size := by obtain ⟨m, hm⟩ := k0; exact DataW.trod_lt m _ _ _ hm
  obtain ⟨cs0, rfl, _⟩ := okWide_struct Try.underlying40 (hval 0 40 v0 rfl rfl)
  obtain ⟨cs0⟩ := cs0
  obtain ⟨⟨l0_0, l0_1, a0_2⟩, hK0, ⟨g0_0, g0_1, g0_2⟩⟩ := (opens_struct (f := id) (b := id) Try.underlying40 (by kernel_rfl) (fun _ => rfl) (opensF_cons rfl (opens_slice Try.underlying22 (by kernel_rfl) (B := 8) (by kernel_rfl) (opens_int Try.underlying2 (by kernel_rfl))) (opensF_cons rfl (opens_slice Try.underlying38 (by kernel_rfl) (B := 32) (by kernel_rfl) (opens_struct (β := S99) (f := fun x => (x.f0, x.f1, x.f2, x.f3)) (b := fun p => ⟨p.1, p.2.1, p.2.2.1, p.2.2.2⟩) Try.underlying99 (by kernel_rfl) (fun _ => rfl) (opensF_cons rfl (opens_int Try.underlying35 (by kernel_rfl)) (opensF_cons rfl (opens_int Try.underlying2 (by kernel_rfl)) (opensF_cons rfl (opens_int Try.underlying2 (by kernel_rfl)) (opensF_one rfl (opens_bool Try.underlying4 (by kernel_rfl)))))))) (opensF_one rfl (opens_int Try.underlying2 (by kernel_rfl)))))).arg (j := 0) (t := 40) k0 hsz rfl rfl
  have hK0' := hK0
  simp only [Value.cells, Kd.iso, Kd.pair, id] at hK0'
  clear hK0
  obtain ⟨_, _, e0, ⟨A0_0, c0_0, rfl, hc0_0, hr0_0⟩, ⟨_, _, rfl, ⟨A0_1, c0_1, rfl, hc0_1, hr0_1⟩, rfl⟩⟩ := hK0'
  simp only [List.cons_append, List.nil_append, Array.toList] at e0
  subst e0
  clear hA0 hval0 hsz0 hsz
  obtain ⟨kk, h⟩ := Pure.FnExactDictOk l0_0 l0_1 a0_2 g0_0 g0_1 g0_2
  refine (laws_FnExactDictOk.calls kk A0_0 c0_0 l0_0 A0_1 c0_1 l0_1 a0_2 true W hr0_0 hc0_0 hr0_1 hc0_1 h).mono ?_
  rintro e W' ⟨he, bel0⟩
  have bel : Below W.heap.size W W' := bel0
  subst he
  exact ⟨_, rfl, _, _, _, [], _, [], hW', trodAll_mk1 (shut_bool Try.underlying4 _), (trodAll_cons_mk (Below.trod laidOut (by kernel_rfl) (of_decide_eq_true (by kernel_rfl)) k0 bel lt0) trodAll_mk0), rfl, bel.frame _, fun h => by cases h⟩
theorem over : Rows.fnExactDictOkRow.holds Try.pinned (OpenSpec.ofChange Rows.fnExactDictOkSpec) :=
  OpenClaim.holds_of_wide 5 Try.f5 rfl rfl rfl rfl rfl rfl rfl ⟨rfl, rfl, rfl, rfl, rfl⟩ rfl rfl rfl rfl rfl (by kernel_rfl) Try.func5 (by kernel_rfl)
    (of_decide_eq_true (by kernel_rfl)) (by unfold Func.isWrapper; first | (rw [if_pos (by decide +kernel)]; kernel_rfl) | (rw [if_neg (by decide +kernel)]; exact ⟨rfl, rfl⟩))
    (fun os started H enc _ => lifted os started H enc)
theorem proved : Rows.FnExactDictOkSaid := over
#print axioms proved
end Go.Proofs.Ytohilfkdfcihgaa.fnExactDictOk
namespace Go.Proofs.Ytohilfkdfcihgaa
/-- The row, under a short name, for the claim. -/
theorem fnExactDictOk_holds : Rows.FnExactDictOkSaid := fnExactDictOk.proved
end Go.Proofs.Ytohilfkdfcihgaa
