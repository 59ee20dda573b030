/- ROW BY gprint: the statement on loop.example/g00009/laws.FnExactGcReach: at every input it returns true and each argument reads as before. No condition. -/
import Derived.Test.YthpdhahjpjhfiaaRows
import Derived.Test.YthpdhahjpjhfiaaPRx4
import Derived.Test.YthpdhahjpjhfiaaPureFnExactGcReach
import Derived.Test.YthpdhahjpjhfiaaOpen
import Derived.WalkKit
import Derived.ProofKit
import Derived.OpenShut
import Derived.ShutString
import Derived.ChangeOld
import Derived.Below
import Derived.SizedLaws
namespace Go.Proofs.Ythpdhahjpjhfiaa.fnExactGcReach
open Go.ChangeShapes Go.WideShapes Go.ChangeAt Go.RowKit
open Go.ChangeMaps (open_string shut_string)
open Go.Proofs.YthpdhahjpjhfiaaW.PrintWords Go.Proofs.Ythpdhahjpjhfiaa.Open Go.Proofs.Ythpdhahjpjhfiaa.PR
set_option linter.unusedVariables false
set_option linter.unusedSimpArgs false
theorem own : ownKnob Try.prog.godebug = none := by kernel_rfl
theorem laidOut : laidOutB Try.prog = true := by kernel_rfl
set_option maxHeartbeats 1000000 in
set_option maxRecDepth 100000 in
theorem lifted (os : Os) (started : os.Started) (H : Type) (enc : TypeId × Value → H) :
    ReturnsInHanded {} Try.checked os 3 .any (Rows.fnExactGcReachSpec.pre6 enc Try.prog Try.f3 Rows.fnExactGcReachRow.domain false) (Rows.fnExactGcReachSpec.post enc Try.prog Try.f3 false true false false) := by
  refine returnsInHanded_of_change_sized (C := Try.checked) own started (by kernel_rfl) Try.func3
    (ChangeSpec.witness6 (enc := enc) (C := Try.checked) false ⟨#[], #[.int .i64 0, .slice none 0 0, .slice none 0 0], []⟩ 8 (by kernel_rfl) (by kernel_rfl) (by kernel_rfl) (by kernel_rfl)) ?_
  intro W base args ds gs before hval0 hW hcnd hsz0 _
  have hsz : (DataW.weightsEach Try.prog (Try.f3.params.toList ++ Rows.fnExactGcReachSpec.plain.varTypes Try.prog) (ds ++ gs)).all (· ≤ reachBytes) = true := hsz0
  have hval : ∀ (j : Nat) t v, Try.f3.params[j]? = some t → args[j]? = some v → Value.okWide Try.prog W .any base t v := hval0
  have hW' := hW
  obtain ⟨p, q, hA0, hV, rfl, hfz, hnd⟩ := hW
  have hA : DataW.TrodAll enc Try.prog W 0 (fun _ => true) true Try.f3.params.toList args.toList ds p := hA0
  rw [Try.params3] at hA hval hsz
  obtain ⟨v0, vs0, d0, ds0, p0, q0, hargs, rfl, rfl, h0, r0⟩ := trodAll_cons hA
  obtain ⟨v1, vs1, d1, ds1, p1, q1, rfl, rfl, rfl, h1, r1⟩ := trodAll_cons r0
  obtain ⟨v2, vs2, d2, ds2, p2, q2, rfl, rfl, rfl, h2, r2⟩ := trodAll_cons r1
  obtain ⟨rfl, rfl, rfl⟩ := trodAll_nil r2
  obtain rfl : args = #[v0, v1, v2] := by cases args; simp_all
  obtain ⟨rfl, rfl⟩ := trodVars_none hV
  have k0 := h0
  have lt0 : ∀ x ∈ p0, x.block < W.heap.size := by obtain ⟨m, hm⟩ := k0; exact DataW.trod_lt m _ _ _ hm
  obtain ⟨a0, rfl, rfl, rfl, w0⟩ := open_int Try.underlying2 (hval 0 2 v0 rfl rfl) h0
  have k1 := h1
  have lt1 : ∀ x ∈ p1, x.block < W.heap.size := by obtain ⟨m, hm⟩ := k1; exact DataW.trod_lt m _ _ _ hm
  obtain ⟨a1, len1, cap1, rfl⟩ := okWide_slice Try.underlying22 (hval 1 22 v1 rfl rfl)
  obtain ⟨l1, ⟨A1, c1, e1, hc1, hr1⟩, g1⟩ := (opens_slice Try.underlying22 (by kernel_rfl) (B := 24) (by kernel_rfl) (opens_struct (β := S54) (f := fun x => (x.f0, x.f1, x.f2)) (b := fun p => ⟨p.1, p.2.1, p.2.2⟩) Try.underlying54 (by kernel_rfl) (fun _ => rfl) (opensF_cons rfl (opens_int Try.underlying2 (by kernel_rfl)) (opensF_cons rfl (opens_int Try.underlying2 (by kernel_rfl)) (opensF_one rfl (opens_int Try.underlying2 (by kernel_rfl))))))).arg (j := 1) (t := 22) k1 hsz rfl rfl
  simp [Value.cells] at e1
  obtain ⟨rfl, rfl, rfl⟩ := e1
  have k2 := h2
  have lt2 : ∀ x ∈ p2, x.block < W.heap.size := by obtain ⟨m, hm⟩ := k2; exact DataW.trod_lt m _ _ _ hm
  obtain ⟨a2, len2, cap2, rfl⟩ := okWide_slice Try.underlying23 (hval 2 23 v2 rfl rfl)
  obtain ⟨l2, ⟨A2, c2, e2, hc2, hr2⟩, g2⟩ := (opens_slice Try.underlying23 (by kernel_rfl) (B := 8) (by kernel_rfl) (opens_int Try.underlying2 (by kernel_rfl))).arg (j := 2) (t := 23) k2 hsz rfl rfl
  simp [Value.cells] at e2
  obtain ⟨rfl, rfl, rfl⟩ := e2
  clear hA0 hval0 hsz0 hsz
  obtain ⟨kk, h⟩ := Pure.FnExactGcReach a0 l1 l2 w0 g1 g2
  refine (laws_FnExactGcReach.calls kk a0 a1 cap1 l1 a2 cap2 l2 true W hr1 hc1 hr2 hc2 h).mono ?_
  rintro e W' ⟨he, bel0⟩
  have bel : Below W.heap.size W W' := bel0
  subst he
  exact ⟨_, rfl, _, _, _, [], _, [], hW', trodAll_mk1 (shut_bool Try.underlying4 _), (trodAll_cons_mk (Below.trod laidOut (by kernel_rfl) (of_decide_eq_true (by kernel_rfl)) k0 bel lt0) (trodAll_cons_mk (Below.trod laidOut (by kernel_rfl) (of_decide_eq_true (by kernel_rfl)) k1 bel lt1) (trodAll_cons_mk (Below.trod laidOut (by kernel_rfl) (of_decide_eq_true (by kernel_rfl)) k2 bel lt2) trodAll_mk0))), rfl, bel.frame _, fun h => by cases h⟩
theorem over : Rows.fnExactGcReachRow.holds Try.pinned (OpenSpec.ofChange Rows.fnExactGcReachSpec) :=
  OpenClaim.holds_of_wide 3 Try.f3 rfl rfl rfl rfl rfl rfl rfl ⟨rfl, rfl, rfl, rfl, rfl⟩ rfl rfl rfl rfl rfl (by kernel_rfl) Try.func3 (by kernel_rfl)
    (of_decide_eq_true (by kernel_rfl)) (by unfold Func.isWrapper; first | (rw [if_pos (by decide +kernel)]; kernel_rfl) | (rw [if_neg (by decide +kernel)]; exact ⟨rfl, rfl⟩))
    (fun os started H enc _ => lifted os started H enc)
theorem proved : Rows.FnExactGcReachSaid := over
#print axioms proved
end Go.Proofs.Ythpdhahjpjhfiaa.fnExactGcReach
namespace Go.Proofs.Ythpdhahjpjhfiaa
/-- The row, under a short name, for the claim. -/
theorem fnExactGcReach_holds : Rows.FnExactGcReachSaid := fnExactGcReach.proved
end Go.Proofs.Ythpdhahjpjhfiaa
