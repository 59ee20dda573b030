/- ROW BY gprint: the statement on loop.example/g00009/laws.FnExactDictPut: at every input it returns true and each argument reads as before. No condition. -/
import Derived.Test.YtohilfkdfcihgaaRows
import Derived.Test.YtohilfkdfcihgaaPDpx4
import Derived.Test.YtohilfkdfcihgaaPureFnExactDictPut
import Derived.Test.YtohilfkdfcihgaaOpen
import Derived.WalkKit
import Derived.ProofKit
import Derived.OpenShut
import Derived.ShutString
import Derived.ChangeOld
import Derived.Below
import Derived.SizedLaws
namespace Go.Proofs.Ytohilfkdfcihgaa.fnExactDictPut
open Go.ChangeShapes Go.WideShapes Go.ChangeAt Go.RowKit
open Go.ChangeMaps (open_string shut_string)
open Go.Proofs.YtohilfkdfcihgaaW.PrintWords Go.Proofs.Ytohilfkdfcihgaa.Open Go.Proofs.Ytohilfkdfcihgaa.PDi
set_option linter.unusedVariables false
set_option linter.unusedSimpArgs false
theorem own : ownKnob Try.prog.godebug = none := by kernel_rfl
theorem laidOut : laidOutB Try.prog = true := by kernel_rfl
set_option maxHeartbeats 1000000 in
set_option maxRecDepth 100000 in
theorem lifted (os : Os) (started : os.Started) (H : Type) (enc : TypeId × Value → H) :
    ReturnsInHanded {} Try.checked os 10 .any (Rows.fnExactDictPutSpec.pre6 enc Try.prog Try.f10 Rows.fnExactDictPutRow.domain false) (Rows.fnExactDictPutSpec.post enc Try.prog Try.f10 false true false false) := by
  refine returnsInHanded_of_change_sized (C := Try.checked) own started (by kernel_rfl) Try.func10
    (ChangeSpec.witness6 (enc := enc) (C := Try.checked) false ⟨#[], #[.agg #[.slice none 0 0, .slice none 0 0, .int .i64 0], .int .u64 0, .int .i64 0, .int .i64 0], []⟩ 8 (by kernel_rfl) (by kernel_rfl) (by kernel_rfl) (by kernel_rfl)) ?_
  intro W base args ds gs before hval0 hW hcnd hsz0 _
  have hsz : (DataW.weightsEach Try.prog (Try.f10.params.toList ++ Rows.fnExactDictPutSpec.plain.varTypes Try.prog) (ds ++ gs)).all (· ≤ reachBytes) = true := hsz0
  have hval : ∀ (j : Nat) t v, Try.f10.params[j]? = some t → args[j]? = some v → Value.okWide Try.prog W .any base t v := hval0
  have hW' := hW
  obtain ⟨p, q, hA0, hV, rfl, hfz, hnd⟩ := hW
  have hA : DataW.TrodAll enc Try.prog W 0 (fun _ => true) true Try.f10.params.toList args.toList ds p := hA0
  rw [Try.params10] at hA hval hsz
  obtain ⟨v0, vs0, d0, ds0, p0, q0, hargs, rfl, rfl, h0, r0⟩ := trodAll_cons hA
  obtain ⟨v1, vs1, d1, ds1, p1, q1, rfl, rfl, rfl, h1, r1⟩ := trodAll_cons r0
  obtain ⟨v2, vs2, d2, ds2, p2, q2, rfl, rfl, rfl, h2, r2⟩ := trodAll_cons r1
  obtain ⟨v3, vs3, d3, ds3, p3, q3, rfl, rfl, rfl, h3, r3⟩ := trodAll_cons r2
  obtain ⟨rfl, rfl, rfl⟩ := trodAll_nil r3
  obtain rfl : args = #[v0, v1, v2, v3] := by cases args; simp_all
  obtain ⟨rfl, rfl⟩ := trodVars_none hV
  have k0 := h0
  have lt0 : ∀ x ∈ p0, x.block < W.heap.size := by obtain ⟨m, hm⟩ := k0; exact DataW.trod_lt m _ _ _ hm
  obtain ⟨cs0, rfl, _⟩ := okWide_struct Try.underlying40 (hval 0 40 v0 rfl rfl)
  obtain ⟨cs0⟩ := cs0
  obtain ⟨⟨l0_0, l0_1, a0_2⟩, hK0, ⟨g0_0, g0_1, g0_2⟩⟩ := (opens_struct (f := id) (b := id) Try.underlying40 (by kernel_rfl) (fun _ => rfl) (opensF_cons rfl (opens_slice Try.underlying22 (by kernel_rfl) (B := 8) (by kernel_rfl) (opens_int Try.underlying2 (by kernel_rfl))) (opensF_cons rfl (opens_slice Try.underlying38 (by kernel_rfl) (B := 32) (by kernel_rfl) (opens_struct (β := S99) (f := fun x => (x.f0, x.f1, x.f2, x.f3)) (b := fun p => ⟨p.1, p.2.1, p.2.2.1, p.2.2.2⟩) Try.underlying99 (by kernel_rfl) (fun _ => rfl) (opensF_cons rfl (opens_int Try.underlying35 (by kernel_rfl)) (opensF_cons rfl (opens_int Try.underlying2 (by kernel_rfl)) (opensF_cons rfl (opens_int Try.underlying2 (by kernel_rfl)) (opensF_one rfl (opens_bool Try.underlying4 (by kernel_rfl)))))))) (opensF_one rfl (opens_int Try.underlying2 (by kernel_rfl)))))).arg (j := 0) (t := 40) k0 hsz rfl rfl
  have hK0' := hK0
  simp only [Value.cells, Kd.iso, Kd.pair, id] at hK0'
  clear hK0
  obtain ⟨_, _, e0, ⟨A0_0, c0_0, rfl, hc0_0, hr0_0⟩, ⟨_, _, rfl, ⟨A0_1, c0_1, rfl, hc0_1, hr0_1⟩, rfl⟩⟩ := hK0'
  simp only [List.cons_append, List.nil_append, Array.toList] at e0
  subst e0
  have k1 := h1
  have lt1 : ∀ x ∈ p1, x.block < W.heap.size := by obtain ⟨m, hm⟩ := k1; exact DataW.trod_lt m _ _ _ hm
  obtain ⟨a1, rfl, rfl, rfl, w1⟩ := open_int Try.underlying35 (hval 1 35 v1 rfl rfl) h1
  have k2 := h2
  have lt2 : ∀ x ∈ p2, x.block < W.heap.size := by obtain ⟨m, hm⟩ := k2; exact DataW.trod_lt m _ _ _ hm
  obtain ⟨a2, rfl, rfl, rfl, w2⟩ := open_int Try.underlying2 (hval 2 2 v2 rfl rfl) h2
  have k3 := h3
  have lt3 : ∀ x ∈ p3, x.block < W.heap.size := by obtain ⟨m, hm⟩ := k3; exact DataW.trod_lt m _ _ _ hm
  obtain ⟨a3, rfl, rfl, rfl, w3⟩ := open_int Try.underlying2 (hval 3 2 v3 rfl rfl) h3
  clear hA0 hval0 hsz0 hsz
  obtain ⟨kk, h⟩ := Pure.FnExactDictPut l0_0 l0_1 a0_2 a1 a2 a3 g0_0 g0_1 g0_2 w1 w2 w3
  refine (laws_FnExactDictPut.calls kk A0_0 c0_0 l0_0 A0_1 c0_1 l0_1 a0_2 a1 a2 a3 true W hr0_0 hc0_0 hr0_1 hc0_1 h).mono ?_
  rintro e W' ⟨he, bel0⟩
  have bel : Below W.heap.size W W' := bel0
  subst he
  exact ⟨_, rfl, _, _, _, [], _, [], hW', trodAll_mk1 (shut_bool Try.underlying4 _), (trodAll_cons_mk (Below.trod laidOut (by kernel_rfl) (of_decide_eq_true (by kernel_rfl)) k0 bel lt0) (trodAll_cons_mk (Below.trod laidOut (by kernel_rfl) (of_decide_eq_true (by kernel_rfl)) k1 bel lt1) (trodAll_cons_mk (Below.trod laidOut (by kernel_rfl) (of_decide_eq_true (by kernel_rfl)) k2 bel lt2) (trodAll_cons_mk (Below.trod laidOut (by kernel_rfl) (of_decide_eq_true (by kernel_rfl)) k3 bel lt3) trodAll_mk0)))), rfl, bel.frame _, fun h => by cases h⟩
theorem over : Rows.fnExactDictPutRow.holds Try.pinned (OpenSpec.ofChange Rows.fnExactDictPutSpec) :=
  OpenClaim.holds_of_wide 10 Try.f10 rfl rfl rfl rfl rfl rfl rfl ⟨rfl, rfl, rfl, rfl, rfl⟩ rfl rfl rfl rfl rfl (by kernel_rfl) Try.func10 (by kernel_rfl)
    (of_decide_eq_true (by kernel_rfl)) (by unfold Func.isWrapper; first | (rw [if_pos (by decide +kernel)]; kernel_rfl) | (rw [if_neg (by decide +kernel)]; exact ⟨rfl, rfl⟩))
    (fun os started H enc _ => lifted os started H enc)
theorem proved : Rows.FnExactDictPutSaid := over
#print axioms proved
end Go.Proofs.Ytohilfkdfcihgaa.fnExactDictPut
namespace Go.Proofs.Ytohilfkdfcihgaa
/-- The row, under a short name, for the claim. -/
theorem fnExactDictPut_holds : Rows.FnExactDictPutSaid := fnExactDictPut.proved
end Go.Proofs.Ytohilfkdfcihgaa
