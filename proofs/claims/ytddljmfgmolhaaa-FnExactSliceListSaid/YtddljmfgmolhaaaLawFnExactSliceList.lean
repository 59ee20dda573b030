/- ROW BY gprint: the statement on loop.example/g00009/laws.FnExactSliceList: at every input it returns true and each argument reads as before. No condition. -/
import Derived.Test.YtddljmfgmolhaaaRows
import Derived.Test.YtddljmfgmolhaaaPSlx3
import Derived.Test.YtddljmfgmolhaaaPureFnExactSliceList
import Derived.Test.YtddljmfgmolhaaaOpen
import Derived.WalkKit
import Derived.ProofKit
import Derived.OpenShut
import Derived.ShutString
import Derived.ChangeOld
import Derived.Below
import Derived.SizedLaws
namespace Go.Proofs.Ytddljmfgmolhaaa.fnExactSliceList
open Go.ChangeShapes Go.WideShapes Go.ChangeAt Go.RowKit
open Go.ChangeMaps (open_string shut_string)
open Go.Proofs.YtddljmfgmolhaaaW.PrintWords Go.Proofs.Ytddljmfgmolhaaa.Open Go.Proofs.Ytddljmfgmolhaaa.PSl
set_option linter.unusedVariables false
set_option linter.unusedSimpArgs false
theorem own : ownKnob Try.prog.godebug = none := by kernel_rfl
theorem laidOut : laidOutB Try.prog = true := by kernel_rfl
set_option maxHeartbeats 1000000 in
set_option maxRecDepth 100000 in
theorem lifted (os : Os) (started : os.Started) (H : Type) (enc : TypeId × Value → H) :
    ReturnsInHanded {} Try.checked os 5 .any (Rows.fnExactSliceListSpec.pre6 enc Try.prog Try.f5 Rows.fnExactSliceListRow.domain false) (Rows.fnExactSliceListSpec.post enc Try.prog Try.f5 false true false false) := by
  refine returnsInHanded_of_change_sized (C := Try.checked) own started (by kernel_rfl) Try.func5
    (ChangeSpec.witness6 (enc := enc) (C := Try.checked) false ⟨#[], #[.int .i64 0, .agg #[.bool false, .int .i64 0], .agg #[.bool false, .int .i64 0], .agg #[.bool false, .int .i64 0]], []⟩ 8 (by kernel_rfl) (by kernel_rfl) (by kernel_rfl) (by kernel_rfl)) ?_
  intro W base args ds gs before hval0 hW hcnd hsz0 _
  have hsz : (DataW.weightsEach Try.prog (Try.f5.params.toList ++ Rows.fnExactSliceListSpec.plain.varTypes Try.prog) (ds ++ gs)).all (· ≤ reachBytes) = true := hsz0
  have hval : ∀ (j : Nat) t v, Try.f5.params[j]? = some t → args[j]? = some v → Value.okWide Try.prog W .any base t v := hval0
  have hW' := hW
  obtain ⟨p, q, hA0, hV, rfl, hfz, hnd⟩ := hW
  have hA : DataW.TrodAll enc Try.prog W 0 (fun _ => true) true Try.f5.params.toList args.toList ds p := hA0
  rw [Try.params5] at hA hval hsz
  obtain ⟨v0, vs0, d0, ds0, p0, q0, hargs, rfl, rfl, h0, r0⟩ := trodAll_cons hA
  obtain ⟨v1, vs1, d1, ds1, p1, q1, rfl, rfl, rfl, h1, r1⟩ := trodAll_cons r0
  obtain ⟨v2, vs2, d2, ds2, p2, q2, rfl, rfl, rfl, h2, r2⟩ := trodAll_cons r1
  obtain ⟨v3, vs3, d3, ds3, p3, q3, rfl, rfl, rfl, h3, r3⟩ := trodAll_cons r2
  obtain ⟨rfl, rfl, rfl⟩ := trodAll_nil r3
  obtain rfl : args = #[v0, v1, v2, v3] := by cases args; simp_all
  obtain ⟨rfl, rfl⟩ := trodVars_none hV
  have k0 := h0
  have lt0 : ∀ x ∈ p0, x.block < W.heap.size := by obtain ⟨m, hm⟩ := k0; exact DataW.trod_lt m _ _ _ hm
  obtain ⟨a0, rfl, rfl, rfl, w0⟩ := open_int Try.underlying2 (hval 0 2 v0 rfl rfl) h0
  have k1 := h1
  have lt1 : ∀ x ∈ p1, x.block < W.heap.size := by obtain ⟨m, hm⟩ := k1; exact DataW.trod_lt m _ _ _ hm
  obtain ⟨cs1, rfl, _⟩ := okWide_struct Try.underlying33 (hval 1 33 v1 rfl rfl)
  obtain ⟨cs1⟩ := cs1
  obtain ⟨⟨a1_0, a1_1⟩, hK1, ⟨g1_0, g1_1⟩⟩ := (opens_struct (f := id) (b := id) Try.underlying33 (by kernel_rfl) (fun _ => rfl) (opensF_cons rfl (opens_bool Try.underlying4 (by kernel_rfl)) (opensF_one rfl (opens_int Try.underlying2 (by kernel_rfl))))).arg (j := 1) (t := 33) k1 hsz rfl rfl
  have hK1' := hK1
  simp only [Value.cells, Kd.iso, Kd.pair, id] at hK1'
  clear hK1
  obtain ⟨_, _, e1, rfl, rfl⟩ := hK1'
  simp only [List.cons_append, List.nil_append, Array.toList] at e1
  subst e1
  have k2 := h2
  have lt2 : ∀ x ∈ p2, x.block < W.heap.size := by obtain ⟨m, hm⟩ := k2; exact DataW.trod_lt m _ _ _ hm
  obtain ⟨cs2, rfl, _⟩ := okWide_struct Try.underlying33 (hval 2 33 v2 rfl rfl)
  obtain ⟨cs2⟩ := cs2
  obtain ⟨⟨a2_0, a2_1⟩, hK2, ⟨g2_0, g2_1⟩⟩ := (opens_struct (f := id) (b := id) Try.underlying33 (by kernel_rfl) (fun _ => rfl) (opensF_cons rfl (opens_bool Try.underlying4 (by kernel_rfl)) (opensF_one rfl (opens_int Try.underlying2 (by kernel_rfl))))).arg (j := 2) (t := 33) k2 hsz rfl rfl
  have hK2' := hK2
  simp only [Value.cells, Kd.iso, Kd.pair, id] at hK2'
  clear hK2
  obtain ⟨_, _, e2, rfl, rfl⟩ := hK2'
  simp only [List.cons_append, List.nil_append, Array.toList] at e2
  subst e2
  have k3 := h3
  have lt3 : ∀ x ∈ p3, x.block < W.heap.size := by obtain ⟨m, hm⟩ := k3; exact DataW.trod_lt m _ _ _ hm
  obtain ⟨cs3, rfl, _⟩ := okWide_struct Try.underlying33 (hval 3 33 v3 rfl rfl)
  obtain ⟨cs3⟩ := cs3
  obtain ⟨⟨a3_0, a3_1⟩, hK3, ⟨g3_0, g3_1⟩⟩ := (opens_struct (f := id) (b := id) Try.underlying33 (by kernel_rfl) (fun _ => rfl) (opensF_cons rfl (opens_bool Try.underlying4 (by kernel_rfl)) (opensF_one rfl (opens_int Try.underlying2 (by kernel_rfl))))).arg (j := 3) (t := 33) k3 hsz rfl rfl
  have hK3' := hK3
  simp only [Value.cells, Kd.iso, Kd.pair, id] at hK3'
  clear hK3
  obtain ⟨_, _, e3, rfl, rfl⟩ := hK3'
  simp only [List.cons_append, List.nil_append, Array.toList] at e3
  subst e3
  clear hA0 hval0 hsz0 hsz
  obtain ⟨kk, h⟩ := Pure.FnExactSliceList a0 a1_0 a1_1 a2_0 a2_1 a3_0 a3_1 w0 g1_1 g2_1 g3_1
  refine (laws_FnExactSliceList.calls kk a0 a1_0 a1_1 a2_0 a2_1 a3_0 a3_1 true W  h).mono ?_
  rintro e W' ⟨he, bel0⟩
  have bel : Below W.heap.size W W' := bel0
  subst he
  exact ⟨_, rfl, _, _, _, [], _, [], hW', trodAll_mk1 (shut_bool Try.underlying4 _), (trodAll_cons_mk (Below.trod laidOut (by kernel_rfl) (of_decide_eq_true (by kernel_rfl)) k0 bel lt0) (trodAll_cons_mk (Below.trod laidOut (by kernel_rfl) (of_decide_eq_true (by kernel_rfl)) k1 bel lt1) (trodAll_cons_mk (Below.trod laidOut (by kernel_rfl) (of_decide_eq_true (by kernel_rfl)) k2 bel lt2) (trodAll_cons_mk (Below.trod laidOut (by kernel_rfl) (of_decide_eq_true (by kernel_rfl)) k3 bel lt3) trodAll_mk0)))), rfl, bel.frame _, fun h => by cases h⟩
theorem over : Rows.fnExactSliceListRow.holds Try.pinned (OpenSpec.ofChange Rows.fnExactSliceListSpec) :=
  OpenClaim.holds_of_wide 5 Try.f5 rfl rfl rfl rfl rfl rfl rfl ⟨rfl, rfl, rfl, rfl, rfl⟩ rfl rfl rfl rfl rfl (by kernel_rfl) Try.func5 (by kernel_rfl)
    (of_decide_eq_true (by kernel_rfl)) (by unfold Func.isWrapper; first | (rw [if_pos (by decide +kernel)]; kernel_rfl) | (rw [if_neg (by decide +kernel)]; exact ⟨rfl, rfl⟩))
    (fun os started H enc _ => lifted os started H enc)
theorem proved : Rows.FnExactSliceListSaid := over
#print axioms proved
end Go.Proofs.Ytddljmfgmolhaaa.fnExactSliceList
namespace Go.Proofs.Ytddljmfgmolhaaa
/-- The row, under a short name, for the claim. -/
theorem fnExactSliceList_holds : Rows.FnExactSliceListSaid := fnExactSliceList.proved
end Go.Proofs.Ytddljmfgmolhaaa
