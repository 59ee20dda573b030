/- The statement on loop.example/g00009/laws.FnExactMro: at every input it returns true and each argument reads as before. No condition. -/
import Derived.Test.YtkclfbmgnhmkhaaRows
import Derived.Test.YtkclfbmgnhmkhaaGMroL
import Derived.Test.YtkclfbmgnhmkhaaMroZ
import Derived.Test.YtkclfbmgnhmkhaaOpen
import Derived.WalkKit
import Derived.ProofKit
import Derived.OpenShut
import Derived.ShutString
import Derived.ChangeOld
import Derived.Below
import Derived.SizedLaws
namespace Go.Proofs.Ytkclfbmgnhmkhaa.fnExactMro
open Go.ChangeShapes Go.WideShapes Go.ChangeAt Go.RowKit
open Go.ChangeMaps (open_string shut_string)
open Go.Proofs.YtkclfbmgnhmkhaaW.PrintWords Go.Proofs.Ytkclfbmgnhmkhaa.Open Go.Proofs.Ytkclfbmgnhmkhaa.PC
set_option linter.unusedVariables false
set_option linter.unusedSimpArgs false
theorem own : ownKnob Try.prog.godebug = none := by kernel_rfl
theorem laidOut : laidOutB Try.prog = true := by kernel_rfl
theorem rest (l0 : List S61) (sz : Int) (hr : sz < 0 ∨ (l0.length ≤ 1048576 ∧ ∀ c ∈ l0, c.f0.length ≤ 1048576 ∧ c.f1.length ≤ 1048576)) :
    sz < 0 ∨ ∃ (C : List S41) (F F2 : List (List Int)) (r2 : Int) (m1 mc : Int) (C2 : List S41), C.length ≤ 1000000000 ∧ laws_toClassS.f 22000000 l0 = some C ∧ spec_Mro.f 22000000 C = some (F, r2) ∧ impl_Mro.f C = some (F, r2) ∧ laws_eqInt64SS.f 22000000 F F = some true ∧ laws_eqClassS.f 22000000 C C = some true ∧ markCS 22000000 C 1 = some (mc, C2) ∧ 0 ≤ mc ∧ F.length ≤ 1000000000 ∧ markSS 22000000 F 1 = some (m1, F2) ∧ laws_heldInt64SS.f 22000000 F2 1 = some m1 ∧ 0 ≤ m1 := by
  refine hr.imp_right ?_
  rintro ⟨h1, hin⟩
  have hs := toC_small hin
  have hl : (l0.map toC).length ≤ 1048576 := by rw [List.length_map]; exact h1
  obtain ⟨F, r2, e1, e2, hF, hR⟩ := mro_both (l0.map toC) hl hs 22000000 (by omega)
  obtain ⟨mc, C2, e3, h0⟩ := markCS_some 22000000 (by omega) (l0.map toC) 1 hs (by omega) (by omega)
  have ht := total_le 1000 F hR
  have ht2 : F.length * 1000 ≤ 1000 * 1000 := Nat.mul_le_mul_right _ hF
  refine ⟨l0.map toC, F, seqSS 1 F, r2, 1 + (total F : Int), mc, C2, by omega, toCS_some l0 h1 hin 22000000 (by omega), e1, e2, eqSS_some F (by omega) (fun L hL => by have := hR L hL; omega) _ (by omega), eqC_some _ hl hs 22000000 (by omega), e3, h0, by omega, markSS_some _ F 1 (fun L hL => by have := hR L hL; omega) (by omega) (by omega), heldSS_some F _ (by omega) (fun L hL => by have := hR L hL; omega) (by omega) (by omega), by omega⟩
set_option maxHeartbeats 1000000 in
set_option maxRecDepth 100000 in
theorem lifted (os : Os) (started : os.Started) (H : Type) (enc : TypeId × Value → H) :
    ReturnsInHanded {} Try.checked os 9 .any (Rows.fnExactMroSpec.pre6 enc Try.prog Try.f9 Rows.fnExactMroRow.domain false) (Rows.fnExactMroSpec.post enc Try.prog Try.f9 false true false false) := by
  refine returnsInHanded_of_change_sized (C := Try.checked) own started (by kernel_rfl) Try.func9
    (ChangeSpec.witness6 (enc := enc) (C := Try.checked) false ⟨#[], #[.slice none 0 0], []⟩ 8 (by kernel_rfl) (by kernel_rfl) (by kernel_rfl) (by kernel_rfl)) ?_
  intro W base args ds gs before hval0 hW hcnd hsz0 _
  have hsz : (DataW.weightsEach Try.prog (Try.f9.params.toList ++ Rows.fnExactMroSpec.plain.varTypes Try.prog) (ds ++ gs)).all (· ≤ reachBytes) = true := hsz0
  have hval : ∀ (j : Nat) t v, Try.f9.params[j]? = some t → args[j]? = some v → Value.okWide Try.prog W .any base t v := hval0
  have hW' := hW
  obtain ⟨p, q, hA0, hV, rfl, hfz, hnd⟩ := hW
  have hA : DataW.TrodAll enc Try.prog W 0 (fun _ => true) true Try.f9.params.toList args.toList ds p := hA0
  rw [Try.params9] at hA hval hsz
  obtain ⟨v0, vs0, d0, ds0, p0, q0, hargs, rfl, rfl, h0, r0⟩ := trodAll_cons hA
  obtain ⟨rfl, rfl, rfl⟩ := trodAll_nil r0
  obtain rfl : args = #[v0] := by cases args; simp_all
  obtain ⟨rfl, rfl⟩ := trodVars_none hV
  have k0 := h0
  have lt0 : ∀ x ∈ p0, x.block < W.heap.size := by obtain ⟨m, hm⟩ := k0; exact DataW.trod_lt m _ _ _ hm
  obtain ⟨a0, len0, cap0, rfl⟩ := okWide_slice Try.underlying22 (hval 0 22 v0 rfl rfl)
  obtain ⟨l0, ⟨A0, c0, e0, hc0, hr0⟩, g0⟩ := (opens_slice Try.underlying22 (by kernel_rfl) (B := 48) (by kernel_rfl) (opens_struct (β := S61) (f := fun x => (x.f0, x.f1)) (b := fun p => ⟨p.1, p.2⟩) Try.underlying61 (by kernel_rfl) (fun _ => rfl) (opensF_cons rfl (opens_slice Try.underlying37 (by kernel_rfl) (B := 8) (by kernel_rfl) (opens_int Try.underlying2 (by kernel_rfl))) (opensF_one rfl (opens_slice Try.underlying49 (by kernel_rfl) (B := 32) (by kernel_rfl) (opens_struct (β := S81) (f := fun x => (x.f0, x.f1, x.f2)) (b := fun p => ⟨p.1, p.2.1, p.2.2⟩) Try.underlying81 (by kernel_rfl) (fun _ => rfl) (opensF_cons rfl (opens_string Try.underlying9 (by kernel_rfl)) (opensF_cons rfl (opens_int Try.underlying2 (by kernel_rfl)) (opensF_one rfl (opens_int Try.underlying2 (by kernel_rfl))))))))))).arg (j := 0) (t := 22) k0 hsz rfl rfl
  simp [Value.cells] at e0
  obtain ⟨rfl, rfl, rfl⟩ := e0
  clear hA0 hval0 hsz0 hsz
  obtain ⟨s1, s2⟩ := small_of g0
  obtain ⟨sz, hsz, hszl, hr⟩ := szC_some l0 s1 s2 22000000 (by omega)
  refine (lawMro_calls 22000000 a0 cap0 l0 W hr0 hc0 sz hsz (rest l0 sz hr)).mono ?_
  rintro e W' ⟨he, bel0⟩
  have bel : Below W.heap.size W W' := bel0
  subst he
  exact ⟨_, rfl, _, _, _, [], _, [], hW', trodAll_mk1 (shut_bool Try.underlying4 _), (trodAll_cons_mk (Below.trod laidOut (by kernel_rfl) (of_decide_eq_true (by kernel_rfl)) k0 bel lt0) trodAll_mk0), rfl, bel.frame _, fun h => by cases h⟩
theorem over : Rows.fnExactMroRow.holds Try.pinned (OpenSpec.ofChange Rows.fnExactMroSpec) :=
  OpenClaim.holds_of_wide 9 Try.f9 rfl rfl rfl rfl rfl rfl rfl ⟨rfl, rfl, rfl, rfl, rfl⟩ rfl rfl rfl rfl rfl (by kernel_rfl) Try.func9 (by kernel_rfl)
    (of_decide_eq_true (by kernel_rfl)) (by unfold Func.isWrapper; first | (rw [if_pos (by decide +kernel)]; kernel_rfl) | (rw [if_neg (by decide +kernel)]; exact ⟨rfl, rfl⟩))
    (fun os started H enc _ => lifted os started H enc)
theorem proved : Rows.FnExactMroSaid := over
#print axioms proved
end Go.Proofs.Ytkclfbmgnhmkhaa.fnExactMro
namespace Go.Proofs.Ytkclfbmgnhmkhaa
/-- The row, under a short name, for the claim. -/
theorem fnExactMro_holds : Rows.FnExactMroSaid := fnExactMro.proved
end Go.Proofs.Ytkclfbmgnhmkhaa
