/- The statement on FnExactTextCut, and its card: at every input the law returns true and each argument reads as before; the two tables of unicode/utf8 read as the program's text lays them. No other condition. -/
import Derived.Test.YtfgiodolgmfdoaaDoorRows
import Derived.Test.YtfgiodolgmfdoaaDoorTie
import Derived.Test.YtfgiodolgmfdoaaDoorCards
import Derived.Test.YtfgiodolgmfdoaaDoorPureFnExactTextCut
import Derived.Test.YtfgiodolgmfdoaaDoorShelfM
import Derived.Test.YtfgiodolgmfdoaaDoorOpen
import Derived.SizedLaws
import Derived.WalkKit
import Derived.ProofKit
import Derived.Lib.LaidU8T
import Derived.PinnedBridge
import Derived.Lay
import Derived.LaidOnce
import Derived.SevenTiedAt
import Derived.OpenShut
import Derived.ShutString
import Derived.Below
import Derived.HandedShaped
namespace Go.Proofs.YtfgiodolgmfdoaaDoor.fnExactTextCut
open Go.ChangeShapes Go.WideShapes Go.ChangeAt Go.RowKit Go.Shelf Go.Lib
open Go.ChangeMaps (open_string shut_string)
open Go.Proofs.YtfgiodolgmfdoaaDoor.PT Go.Proofs.YtfgiodolgmfdoaaDoor.Open Go.Proofs.YtfgiodolgmfdoaaDoorW.PrintWords
set_option linter.unusedVariables false
set_option linter.unusedSimpArgs false
theorem laidOut : laidOutB Tryd.prog = true := by kernel_rfl
theorem own : ownKnob Tryd.prog.godebug = none := by kernel_rfl
theorem first_eq : Rows.laid_unicode_utf8_first = Lib.firstData := Pinned.utf8First_eq
theorem accept_eq : (Rows.laid_unicode_utf8_acceptRanges : DataW Unit) = Lib.acceptData := by kernel_rfl
set_option maxRecDepth 100000 in
set_option maxHeartbeats 2000000 in
theorem lifted (os : Os) (started : os.Started) (H : Type) (enc : TypeId × Value → H) :
    ReturnsInHanded {} Tryd.checked os 7 .any (fun w args => (Rows.fnExactTextCutSpec.pre enc Tryd.prog Tryd.f7 [] false w args ∧ laidMetH Tryd.prog Rows.fnExactTextCutRow.laid w) ∧ sizedMet enc Tryd.prog Tryd.f7 (OpenSpec.ofChange Rows.fnExactTextCutSpec) false w args)
      (Rows.fnExactTextCutSpec.post enc Tryd.prog Tryd.f7 false true false false) := by
  refine returnsInHanded_of_calls own started (by kernel_rfl)
    (ChangeSpec.witness_shaped (enc := enc) (C := Tryd.checked) (os := os) (X := fun w _ => laidMetH Tryd.prog Rows.fnExactTextCutRow.laid w) false (World.laidAll Tryd.prog os Rows.fnExactTextCutRow.laid) #[.string ⟨#[]⟩, .agg #[.bool false, .int .i64 0], .agg #[.bool false, .int .i64 0], .agg #[.bool false, .int .i64 0]] 8 (World.laidAll_os _ _ _)
      (World.shaped_of_ZipB (by kernel_rfl) (by kernel_rfl)) (by kernel_rfl) (by kernel_rfl) (by kernel_rfl)
      (by rw [MakeChecks.laidMetH_plain _ _ _ (by kernel_rfl)]; exact laidMet_laidAll _ (by kernel_rfl) (by kernel_rfl))) ?_
  intro w tape i _ hsh _ hok hpre hholds
  obtain ⟨_, _, _, fn', hfn', _, _, _, _, hval0⟩ := hok
  have efn : fn' = Tryd.f7 := Option.some.inj (hfn'.symm.trans Tryd.func7)
  subst efn
  obtain ⟨⟨⟨ds, gs, before, hw, hc⟩, hx⟩, hz⟩ := hpre
  have hW := DataW.Whole.of_heap (w' := w.forCall tape i) (by rfl) hw
  have hL : laidMetH Tryd.prog Rows.fnExactTextCutRow.laid (w.forCall tape i) := hx.of_heap (by rfl)
  have hsz0 := hz.weights hw
  have hsz : (DataW.weightsEach Tryd.prog (Tryd.f7.params.toList ++ Rows.fnExactTextCutSpec.plain.varTypes Tryd.prog) (ds ++ gs)).all (· ≤ reachBytes) = true := hsz0
  clear hsz0 hw hx hz hc hfn' hholds
  generalize w.heap.size = base at hval0
  generalize w.forCall tape i = W at *
  generalize hargs0 : i.args = args at *
  suffices hsuf : Calls Tryd.prog 7 args W fun e W' => ∃ v, e = .returned v ∧ Rows.fnExactTextCutSpec.post enc Tryd.prog Tryd.f7 false true false false W args v W' from
    hsuf.mono fun e W' ⟨v, he, hp⟩ => by
      subst he
      exact ChangeSpec.post_blind hp
  clear hargs0
  have hval : ∀ (j : Nat) t v, Tryd.f7.params[j]? = some t → args[j]? = some v → Value.okWide Tryd.prog W .any base t v := hval0
  have hW' := hW
  obtain ⟨p, q, hA0, hV, rfl, _, _⟩ := hW
  have hA : DataW.TrodAll enc Tryd.prog W 0 (fun _ => true) true Tryd.f7.params.toList args.toList ds p := hA0
  rw [Tryd.params7] at hA hval hsz
  obtain ⟨v0, vs0, d0, ds0, p0, q0, hargs, rfl, rfl, h0, r0⟩ := trodAll_cons hA
  obtain ⟨v1, vs1, d1, ds1, p1, q1, rfl, rfl, rfl, h1, r1⟩ := trodAll_cons r0
  obtain ⟨v2, vs2, d2, ds2, p2, q2, rfl, rfl, rfl, h2, r2⟩ := trodAll_cons r1
  obtain ⟨v3, vs3, d3, ds3, p3, q3, rfl, rfl, rfl, h3, r3⟩ := trodAll_cons r2
  obtain ⟨rfl, rfl, rfl⟩ := trodAll_nil r3
  obtain rfl : args = #[v0, v1, v2, v3] := by cases args; simp_all
  obtain ⟨rfl, rfl⟩ := trodVars_none hV
  obtain ⟨a0, rfl, rfl, rfl, y0⟩ := open_string Tryd.underlying9 (hval 0 9 v0 rfl rfl) h0
  have k1 := h1
  have lt1 : ∀ x ∈ p1, x.block < W.heap.size := by obtain ⟨m, hm⟩ := k1; exact DataW.trod_lt m _ _ _ hm
  obtain ⟨cs1, rfl, _⟩ := okWide_struct Tryd.underlying36 (hval 1 36 v1 rfl rfl)
  obtain ⟨cs1⟩ := cs1
  obtain ⟨⟨a1_0, a1_1⟩, hK1, ⟨g1_0, g1_1⟩⟩ := (opens_struct (f := id) (b := id) Tryd.underlying36 (by kernel_rfl) (fun _ => rfl) (opensF_cons rfl (opens_bool Tryd.underlying4 (by kernel_rfl)) (opensF_one rfl (opens_int Tryd.underlying2 (by kernel_rfl))))).arg (j := 1) (t := 36) k1 hsz rfl rfl
  have hK1' := hK1
  simp only [Value.cells, Kd.iso, Kd.pair, id] at hK1'
  clear hK1
  obtain ⟨_, _, e1, rfl, rfl⟩ := hK1'
  simp only [List.cons_append, List.nil_append, Array.toList] at e1
  subst e1
  have k2 := h2
  have lt2 : ∀ x ∈ p2, x.block < W.heap.size := by obtain ⟨m, hm⟩ := k2; exact DataW.trod_lt m _ _ _ hm
  obtain ⟨cs2, rfl, _⟩ := okWide_struct Tryd.underlying36 (hval 2 36 v2 rfl rfl)
  obtain ⟨cs2⟩ := cs2
  obtain ⟨⟨a2_0, a2_1⟩, hK2, ⟨g2_0, g2_1⟩⟩ := (opens_struct (f := id) (b := id) Tryd.underlying36 (by kernel_rfl) (fun _ => rfl) (opensF_cons rfl (opens_bool Tryd.underlying4 (by kernel_rfl)) (opensF_one rfl (opens_int Tryd.underlying2 (by kernel_rfl))))).arg (j := 2) (t := 36) k2 hsz rfl rfl
  have hK2' := hK2
  simp only [Value.cells, Kd.iso, Kd.pair, id] at hK2'
  clear hK2
  obtain ⟨_, _, e2, rfl, rfl⟩ := hK2'
  simp only [List.cons_append, List.nil_append, Array.toList] at e2
  subst e2
  have k3 := h3
  have lt3 : ∀ x ∈ p3, x.block < W.heap.size := by obtain ⟨m, hm⟩ := k3; exact DataW.trod_lt m _ _ _ hm
  obtain ⟨cs3, rfl, _⟩ := okWide_struct Tryd.underlying36 (hval 3 36 v3 rfl rfl)
  obtain ⟨cs3⟩ := cs3
  obtain ⟨⟨a3_0, a3_1⟩, hK3, ⟨g3_0, g3_1⟩⟩ := (opens_struct (f := id) (b := id) Tryd.underlying36 (by kernel_rfl) (fun _ => rfl) (opensF_cons rfl (opens_bool Tryd.underlying4 (by kernel_rfl)) (opensF_one rfl (opens_int Tryd.underlying2 (by kernel_rfl))))).arg (j := 3) (t := 36) k3 hsz rfl rfl
  have hK3' := hK3
  simp only [Value.cells, Kd.iso, Kd.pair, id] at hK3'
  clear hK3
  obtain ⟨_, _, e3, rfl, rfl⟩ := hK3'
  simp only [List.cons_append, List.nil_append, Array.toList] at e3
  subst e3
  clear hsz
  try simp only [List.append_nil] at hW'
  rw [MakeChecks.laidMetH_plain _ _ _ (by kernel_rfl)] at hL
  have hT : Tabs W :=
    utf8Tabs_of_readsT (U8Types.of196 Tryd.laysValid) ⟨by kernel_rfl, by kernel_rfl, by kernel_rfl, by kernel_rfl, by kernel_rfl, by kernel_rfl, by kernel_rfl⟩ (first_eq ▸ Lib.laidMet.reads hL (.tail _ (.head _))) (accept_eq ▸ Lib.laidMet.reads hL (.head _))
  refine (laws_FnExactTextCut.calls 500000 a0 a1_0 a1_1 a2_0 a2_1 a3_0 a3_1 true W (cutLaw a0 a1_0 a1_1 a2_0 a2_1 a3_0 a3_1 g1_1 g2_1 g3_1) ⟨hT, Tryd.laysM146.s1_3 W hsh⟩).mono fun e W' ⟨he, hb⟩ => ?_
  subst he
  exact ⟨_, rfl, _, _, _, [], _, [], hW', trodAll_mk1 (shut_bool Tryd.underlying4 _), (trodAll_cons_mk (shut_string Tryd.underlying9 y0) (trodAll_cons_mk (Below.trod laidOut (by kernel_rfl) (of_decide_eq_true (by kernel_rfl)) k1 hb lt1) (trodAll_cons_mk (Below.trod laidOut (by kernel_rfl) (of_decide_eq_true (by kernel_rfl)) k2 hb lt2) (trodAll_cons_mk (Below.trod laidOut (by kernel_rfl) (of_decide_eq_true (by kernel_rfl)) k3 hb lt3) trodAll_mk0)))), rfl, hb.frame _, fun h => by cases h⟩

theorem over : Rows.fnExactTextCutRow.holds Tryd.pinned (OpenSpec.ofChange Rows.fnExactTextCutSpec) :=
  OpenClaim.holds_of_wide 7 Tryd.f7 rfl rfl rfl rfl rfl rfl rfl ⟨rfl, rfl, rfl, rfl, rfl⟩ rfl rfl rfl rfl rfl (by kernel_rfl) Tryd.func7 (by kernel_rfl)
    (of_decide_eq_true (by kernel_rfl)) (by unfold Func.isWrapper; first | (rw [if_pos (by decide +kernel)]; kernel_rfl) | (rw [if_neg (by decide +kernel)]; exact ⟨rfl, rfl⟩))
    (fun os started H enc _ => lifted os started H enc)
theorem card : Rows.FnExactTextCutCardSaid :=
  Claim7.holds_tied_plain_at .later [] [.data, .pinned] true (true, "a63671ab05bdc6564417ab67bce4739a4a34e2521914c10088a4dc651eb84db7") true over (fun _ h => by cases h) (by kernel_rfl) (fun _ h => by cases h) fnExactTextCut_row_tie rfl ⟨rfl, rfl⟩ (by kernel_rfl) rfl
    (fun f fn hf hfn => by
      obtain rfl : f = 7 := Option.some.inj ((show Tryd.prog.funcNamed "loop.example/g00009/laws.FnExactTextCut" = some 7 by kernel_rfl).symm.trans hf) |>.symm
      obtain rfl : fn = Tryd.f7 := (Option.some.inj (Tryd.func7.symm.trans hfn)).symm
      exact ⟨by kernel_rfl, fun j t ht => by
        rw [Tryd.params7] at ht
        have hm : t ∈ [9, 36, 36, 36] := by simpa using Array.mem_of_getElem? ht
        have hall : ([9, 36, 36, 36].all fun u => !Tryd.prog.wantsStandIn u) = true := by kernel_rfl
        exact (show Tryd.prog.wantsStandIn t = false by simpa using List.all_eq_true.1 hall t hm)⟩)
    (by kernel_rfl)
#print axioms card
end Go.Proofs.YtfgiodolgmfdoaaDoor.fnExactTextCut
namespace Go.Proofs.YtfgiodolgmfdoaaDoor
/-- The card, under a short name, for the claim. -/
theorem fnExactTextCut_holds : Rows.FnExactTextCutCardSaid := fnExactTextCut.card
end Go.Proofs.YtfgiodolgmfdoaaDoor
