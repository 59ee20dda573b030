/- ROW BY gprint: the statement on loop.example/g00009/laws.FnExactAttrGet: at every input it returns true and each argument reads as before. No condition. -/
import Derived.Test.YtkclfbmgnhmkhaaRows
import Derived.Test.YtkclfbmgnhmkhaaPLx2
import Derived.Test.YtkclfbmgnhmkhaaPureFnExactAttrGet
import Derived.Test.YtkclfbmgnhmkhaaOpen
import Derived.WalkKit
import Derived.ProofKit
import Derived.OpenShut
import Derived.ShutString
import Derived.ChangeOld
import Derived.Below
import Derived.SizedLaws
namespace Go.Proofs.Ytkclfbmgnhmkhaa.fnExactAttrGet
open Go.ChangeShapes Go.WideShapes Go.ChangeAt Go.RowKit
open Go.ChangeMaps (open_string shut_string)
open Go.Proofs.YtkclfbmgnhmkhaaW.PrintWords Go.Proofs.Ytkclfbmgnhmkhaa.Open Go.Proofs.Ytkclfbmgnhmkhaa.PC
set_option linter.unusedVariables false
set_option linter.unusedSimpArgs false
theorem own : ownKnob Try.prog.godebug = none := by kernel_rfl
theorem laidOut : laidOutB Try.prog = true := by kernel_rfl
set_option maxHeartbeats 1000000 in
set_option maxRecDepth 100000 in
theorem lifted (os : Os) (started : os.Started) (H : Type) (enc : TypeId × Value → H) :
    ReturnsInHanded {} Try.checked os 7 .any (Rows.fnExactAttrGetSpec.pre6 enc Try.prog Try.f7 Rows.fnExactAttrGetRow.domain false) (Rows.fnExactAttrGetSpec.post enc Try.prog Try.f7 false true false false) := by
  refine returnsInHanded_of_change_sized (C := Try.checked) own started (by kernel_rfl) Try.func7
    (ChangeSpec.witness6 (enc := enc) (C := Try.checked) false ⟨#[], #[.slice none 0 0, .int .i64 0, .slice none 0 0, .string ByteArray.empty], []⟩ 8 (by kernel_rfl) (by kernel_rfl) (by kernel_rfl) (by kernel_rfl)) ?_
  intro W base args ds gs before hval0 hW hcnd hsz0 _
  have hsz : (DataW.weightsEach Try.prog (Try.f7.params.toList ++ Rows.fnExactAttrGetSpec.plain.varTypes Try.prog) (ds ++ gs)).all (· ≤ reachBytes) = true := hsz0
  have hval : ∀ (j : Nat) t v, Try.f7.params[j]? = some t → args[j]? = some v → Value.okWide Try.prog W .any base t v := hval0
  have hW' := hW
  obtain ⟨p, q, hA0, hV, rfl, hfz, hnd⟩ := hW
  have hA : DataW.TrodAll enc Try.prog W 0 (fun _ => true) true Try.f7.params.toList args.toList ds p := hA0
  rw [Try.params7] at hA hval hsz
  obtain ⟨v0, vs0, d0, ds0, p0, q0, hargs, rfl, rfl, h0, r0⟩ := trodAll_cons hA
  obtain ⟨v1, vs1, d1, ds1, p1, q1, rfl, rfl, rfl, h1, r1⟩ := trodAll_cons r0
  obtain ⟨v2, vs2, d2, ds2, p2, q2, rfl, rfl, rfl, h2, r2⟩ := trodAll_cons r1
  obtain ⟨v3, vs3, d3, ds3, p3, q3, rfl, rfl, rfl, h3, r3⟩ := trodAll_cons r2
  obtain ⟨rfl, rfl, rfl⟩ := trodAll_nil r3
  obtain rfl : args = #[v0, v1, v2, v3] := by cases args; simp_all
  obtain ⟨rfl, rfl⟩ := trodVars_none hV
  have k0 := h0
  have lt0 : ∀ x ∈ p0, x.block < W.heap.size := by obtain ⟨m, hm⟩ := k0; exact DataW.trod_lt m _ _ _ hm
  obtain ⟨a0, len0, cap0, rfl⟩ := okWide_slice Try.underlying22 (hval 0 22 v0 rfl rfl)
  obtain ⟨l0, ⟨A0, c0, e0, hc0, hr0⟩, g0⟩ := (opens_slice Try.underlying22 (by kernel_rfl) (B := 48) (by kernel_rfl) (opens_struct (β := S61) (f := fun x => (x.f0, x.f1)) (b := fun p => ⟨p.1, p.2⟩) Try.underlying61 (by kernel_rfl) (fun _ => rfl) (opensF_cons rfl (opens_slice Try.underlying37 (by kernel_rfl) (B := 8) (by kernel_rfl) (opens_int Try.underlying2 (by kernel_rfl))) (opensF_one rfl (opens_slice Try.underlying49 (by kernel_rfl) (B := 32) (by kernel_rfl) (opens_struct (β := S81) (f := fun x => (x.f0, x.f1, x.f2)) (b := fun p => ⟨p.1, p.2.1, p.2.2⟩) Try.underlying81 (by kernel_rfl) (fun _ => rfl) (opensF_cons rfl (opens_string Try.underlying9 (by kernel_rfl)) (opensF_cons rfl (opens_int Try.underlying2 (by kernel_rfl)) (opensF_one rfl (opens_int Try.underlying2 (by kernel_rfl))))))))))).arg (j := 0) (t := 22) k0 hsz rfl rfl
  simp [Value.cells] at e0
  obtain ⟨rfl, rfl, rfl⟩ := e0
  have k1 := h1
  have lt1 : ∀ x ∈ p1, x.block < W.heap.size := by obtain ⟨m, hm⟩ := k1; exact DataW.trod_lt m _ _ _ hm
  obtain ⟨a1, rfl, rfl, rfl, w1⟩ := open_int Try.underlying2 (hval 1 2 v1 rfl rfl) h1
  have k2 := h2
  have lt2 : ∀ x ∈ p2, x.block < W.heap.size := by obtain ⟨m, hm⟩ := k2; exact DataW.trod_lt m _ _ _ hm
  obtain ⟨a2, len2, cap2, rfl⟩ := okWide_slice Try.underlying49 (hval 2 49 v2 rfl rfl)
  obtain ⟨l2, ⟨A2, c2, e2, hc2, hr2⟩, g2⟩ := (opens_slice Try.underlying49 (by kernel_rfl) (B := 32) (by kernel_rfl) (opens_struct (β := S81) (f := fun x => (x.f0, x.f1, x.f2)) (b := fun p => ⟨p.1, p.2.1, p.2.2⟩) Try.underlying81 (by kernel_rfl) (fun _ => rfl) (opensF_cons rfl (opens_string Try.underlying9 (by kernel_rfl)) (opensF_cons rfl (opens_int Try.underlying2 (by kernel_rfl)) (opensF_one rfl (opens_int Try.underlying2 (by kernel_rfl))))))).arg (j := 2) (t := 49) k2 hsz rfl rfl
  simp [Value.cells] at e2
  obtain ⟨rfl, rfl, rfl⟩ := e2
  have k3 := h3
  have lt3 : ∀ x ∈ p3, x.block < W.heap.size := by obtain ⟨m, hm⟩ := k3; exact DataW.trod_lt m _ _ _ hm
  obtain ⟨a3, rfl, rfl, rfl, y3⟩ := open_string Try.underlying9 (hval 3 9 v3 rfl rfl) h3
  have w3 : a3.size ≤ 140737488351232 := by
    have z := sized_string hsz (j := 3) (t := 9) rfl rfl
    rw [Array.length_toList] at z
    exact z
  clear hA0 hval0 hsz0 hsz
  obtain ⟨kk, h⟩ := Pure.FnExactAttrGet l0 a1 l2 a3 g0 w1 g2 w3
  refine (laws_FnExactAttrGet.calls kk a0 cap0 l0 a1 a2 cap2 l2 a3 true W hr0 hc0 hr2 hc2 h).mono ?_
  rintro e W' ⟨he, bel0⟩
  have bel : Below W.heap.size W W' := bel0
  subst he
  exact ⟨_, rfl, _, _, _, [], _, [], hW', trodAll_mk1 (shut_bool Try.underlying4 _), (trodAll_cons_mk (Below.trod laidOut (by kernel_rfl) (of_decide_eq_true (by kernel_rfl)) k0 bel lt0) (trodAll_cons_mk (Below.trod laidOut (by kernel_rfl) (of_decide_eq_true (by kernel_rfl)) k1 bel lt1) (trodAll_cons_mk (Below.trod laidOut (by kernel_rfl) (of_decide_eq_true (by kernel_rfl)) k2 bel lt2) (trodAll_cons_mk (Below.trod laidOut (by kernel_rfl) (of_decide_eq_true (by kernel_rfl)) k3 bel lt3) trodAll_mk0)))), rfl, bel.frame _, fun h => by cases h⟩
theorem over : Rows.fnExactAttrGetRow.holds Try.pinned (OpenSpec.ofChange Rows.fnExactAttrGetSpec) :=
  OpenClaim.holds_of_wide 7 Try.f7 rfl rfl rfl rfl rfl rfl rfl ⟨rfl, rfl, rfl, rfl, rfl⟩ rfl rfl rfl rfl rfl (by kernel_rfl) Try.func7 (by kernel_rfl)
    (of_decide_eq_true (by kernel_rfl)) (by unfold Func.isWrapper; first | (rw [if_pos (by decide +kernel)]; kernel_rfl) | (rw [if_neg (by decide +kernel)]; exact ⟨rfl, rfl⟩))
    (fun os started H enc _ => lifted os started H enc)
theorem proved : Rows.FnExactAttrGetSaid := over
#print axioms proved
end Go.Proofs.Ytkclfbmgnhmkhaa.fnExactAttrGet
namespace Go.Proofs.Ytkclfbmgnhmkhaa
/-- The row, under a short name, for the claim. -/
theorem fnExactAttrGet_holds : Rows.FnExactAttrGetSaid := fnExactAttrGet.proved
end Go.Proofs.Ytkclfbmgnhmkhaa
