/- The statement on FnPieces, and its card: at every input the law returns true and each argument reads as before; the two tables of unicode/utf8 read as the program's text lays them. No other condition. -/
import Derived.Test.YtfgiodolgmfdoaaDoorRows
import Derived.Test.YtfgiodolgmfdoaaDoorTie
import Derived.Test.YtfgiodolgmfdoaaDoorCards
import Derived.Test.YtfgiodolgmfdoaaDoorPureFnPieces
import Derived.Test.YtfgiodolgmfdoaaDoorShelfM
import Derived.Test.YtfgiodolgmfdoaaDoorOpen
import Derived.SizedLaws
import Derived.WalkKit
import Derived.ProofKit
import Derived.Lib.LaidU8T
import Derived.PinnedBridge
import Derived.Lay
import Derived.LaidOnce
import Derived.SevenTiedAt
import Derived.OpenShut
import Derived.ShutString
import Derived.Below
import Derived.HandedShaped
namespace Go.Proofs.YtfgiodolgmfdoaaDoor.fnPieces
open Go.ChangeShapes Go.WideShapes Go.ChangeAt Go.RowKit Go.Shelf Go.Lib
open Go.ChangeMaps (open_string shut_string)
open Go.Proofs.YtfgiodolgmfdoaaDoor.PT Go.Proofs.YtfgiodolgmfdoaaDoor.Open Go.Proofs.YtfgiodolgmfdoaaDoorW.PrintWords
set_option linter.unusedVariables false
set_option linter.unusedSimpArgs false
theorem laidOut : laidOutB Tryd.prog = true := by kernel_rfl
theorem own : ownKnob Tryd.prog.godebug = none := by kernel_rfl
theorem first_eq : Rows.laid_unicode_utf8_first = Lib.firstData := Pinned.utf8First_eq
theorem accept_eq : (Rows.laid_unicode_utf8_acceptRanges : DataW Unit) = Lib.acceptData := by kernel_rfl
set_option maxRecDepth 100000 in
set_option maxHeartbeats 2000000 in
theorem lifted (os : Os) (started : os.Started) (H : Type) (enc : TypeId × Value → H) :
    ReturnsInHanded {} Tryd.checked os 12 .any (fun w args => (Rows.fnPiecesSpec.pre enc Tryd.prog Tryd.f12 [] false w args ∧ laidMetH Tryd.prog Rows.fnPiecesRow.laid w) ∧ sizedMet enc Tryd.prog Tryd.f12 (OpenSpec.ofChange Rows.fnPiecesSpec) false w args)
      (Rows.fnPiecesSpec.post enc Tryd.prog Tryd.f12 false true false false) := by
  refine returnsInHanded_of_calls own started (by kernel_rfl)
    (ChangeSpec.witness_shaped (enc := enc) (C := Tryd.checked) (os := os) (X := fun w _ => laidMetH Tryd.prog Rows.fnPiecesRow.laid w) false (World.laidAll Tryd.prog os Rows.fnPiecesRow.laid) #[.slice none 0 0, .slice none 0 0] 8 (World.laidAll_os _ _ _)
      (World.shaped_of_ZipB (by kernel_rfl) (by kernel_rfl)) (by kernel_rfl) (by kernel_rfl) (by kernel_rfl)
      (by rw [MakeChecks.laidMetH_plain _ _ _ (by kernel_rfl)]; exact laidMet_laidAll _ (by kernel_rfl) (by kernel_rfl))) ?_
  intro w tape i _ hsh _ hok hpre hholds
  obtain ⟨_, _, _, fn', hfn', _, _, _, _, hval0⟩ := hok
  have efn : fn' = Tryd.f12 := Option.some.inj (hfn'.symm.trans Tryd.func12)
  subst efn
  obtain ⟨⟨⟨ds, gs, before, hw, hc⟩, hx⟩, hz⟩ := hpre
  have hW := DataW.Whole.of_heap (w' := w.forCall tape i) (by rfl) hw
  have hL : laidMetH Tryd.prog Rows.fnPiecesRow.laid (w.forCall tape i) := hx.of_heap (by rfl)
  have hsz0 := hz.weights hw
  have hsz : (DataW.weightsEach Tryd.prog (Tryd.f12.params.toList ++ Rows.fnPiecesSpec.plain.varTypes Tryd.prog) (ds ++ gs)).all (· ≤ reachBytes) = true := hsz0
  clear hsz0 hw hx hz hc hfn' hholds
  generalize w.heap.size = base at hval0
  generalize w.forCall tape i = W at *
  generalize hargs0 : i.args = args at *
  suffices hsuf : Calls Tryd.prog 12 args W fun e W' => ∃ v, e = .returned v ∧ Rows.fnPiecesSpec.post enc Tryd.prog Tryd.f12 false true false false W args v W' from
    hsuf.mono fun e W' ⟨v, he, hp⟩ => by
      subst he
      exact ChangeSpec.post_blind hp
  clear hargs0
  have hval : ∀ (j : Nat) t v, Tryd.f12.params[j]? = some t → args[j]? = some v → Value.okWide Tryd.prog W .any base t v := hval0
  have hW' := hW
  obtain ⟨p, q, hA0, hV, rfl, _, _⟩ := hW
  have hA : DataW.TrodAll enc Tryd.prog W 0 (fun _ => true) true Tryd.f12.params.toList args.toList ds p := hA0
  rw [Tryd.params12] at hA hval hsz
  obtain ⟨v0, vs0, d0, ds0, p0, q0, hargs, rfl, rfl, h0, r0⟩ := trodAll_cons hA
  obtain ⟨v1, vs1, d1, ds1, p1, q1, rfl, rfl, rfl, h1, r1⟩ := trodAll_cons r0
  obtain ⟨rfl, rfl, rfl⟩ := trodAll_nil r1
  obtain rfl : args = #[v0, v1] := by cases args; simp_all
  obtain ⟨rfl, rfl⟩ := trodVars_none hV
  have k0 := h0
  have lt0 : ∀ x ∈ p0, x.block < W.heap.size := by obtain ⟨m, hm⟩ := k0; exact DataW.trod_lt m _ _ _ hm
  obtain ⟨a0, len0, cap0, rfl⟩ := okWide_slice Tryd.underlying41 (hval 0 41 v0 rfl rfl)
  obtain ⟨l0, ⟨A0, c0, e0, hc0, hr0⟩, g0⟩ := (opens_slice Tryd.underlying41 (by kernel_rfl) (B := 1) (by kernel_rfl) (opens_int Tryd.underlying5 (by kernel_rfl))).arg (j := 0) (t := 41) k0 hsz rfl rfl
  simp [Value.cells] at e0
  obtain ⟨rfl, rfl, rfl⟩ := e0
  have k1 := h1
  have lt1 : ∀ x ∈ p1, x.block < W.heap.size := by obtain ⟨m, hm⟩ := k1; exact DataW.trod_lt m _ _ _ hm
  obtain ⟨a1, len1, cap1, rfl⟩ := okWide_slice Tryd.underlying41 (hval 1 41 v1 rfl rfl)
  obtain ⟨l1, ⟨A1, c1, e1, hc1, hr1⟩, g1⟩ := (opens_slice Tryd.underlying41 (by kernel_rfl) (B := 1) (by kernel_rfl) (opens_int Tryd.underlying5 (by kernel_rfl))).arg (j := 1) (t := 41) k1 hsz rfl rfl
  simp [Value.cells] at e1
  obtain ⟨rfl, rfl, rfl⟩ := e1
  clear hsz
  try simp only [List.append_nil] at hW'
  rw [MakeChecks.laidMetH_plain _ _ _ (by kernel_rfl)] at hL
  have hT : Tabs W :=
    utf8Tabs_of_readsT (U8Types.of196 Tryd.laysValid) ⟨by kernel_rfl, by kernel_rfl, by kernel_rfl, by kernel_rfl, by kernel_rfl, by kernel_rfl, by kernel_rfl⟩ (first_eq ▸ Lib.laidMet.reads hL (.tail _ (.head _))) (accept_eq ▸ Lib.laidMet.reads hL (.head _))
  refine (laws_FnPieces.calls 600003 a0 cap0 l0 a1 cap1 l1 true W hr0 hc0 hr1 hc1 (piecesLaw l0 l1 g0.1 g0.2 g1.1 g1.2) ⟨hT, Tryd.laysM146.s1_3 W hsh⟩).mono fun e W' ⟨he, hb⟩ => ?_
  subst he
  exact ⟨_, rfl, _, _, _, [], _, [], hW', trodAll_mk1 (shut_bool Tryd.underlying4 _), (trodAll_cons_mk (Below.trod laidOut (by kernel_rfl) (of_decide_eq_true (by kernel_rfl)) k0 hb lt0) (trodAll_cons_mk (Below.trod laidOut (by kernel_rfl) (of_decide_eq_true (by kernel_rfl)) k1 hb lt1) trodAll_mk0)), rfl, hb.frame _, fun h => by cases h⟩

theorem over : Rows.fnPiecesRow.holds Tryd.pinned (OpenSpec.ofChange Rows.fnPiecesSpec) :=
  OpenClaim.holds_of_wide 12 Tryd.f12 rfl rfl rfl rfl rfl rfl rfl ⟨rfl, rfl, rfl, rfl, rfl⟩ rfl rfl rfl rfl rfl (by kernel_rfl) Tryd.func12 (by kernel_rfl)
    (of_decide_eq_true (by kernel_rfl)) (by unfold Func.isWrapper; first | (rw [if_pos (by decide +kernel)]; kernel_rfl) | (rw [if_neg (by decide +kernel)]; exact ⟨rfl, rfl⟩))
    (fun os started H enc _ => lifted os started H enc)
theorem card : Rows.FnPiecesCardSaid :=
  Claim7.holds_tied_plain_at .later [] [.data, .pinned] true (true, "a63671ab05bdc6564417ab67bce4739a4a34e2521914c10088a4dc651eb84db7") true over (fun _ h => by cases h) (by kernel_rfl) (fun _ h => by cases h) fnPieces_row_tie rfl ⟨rfl, rfl⟩ (by kernel_rfl) rfl
    (fun f fn hf hfn => by
      obtain rfl : f = 12 := Option.some.inj ((show Tryd.prog.funcNamed "loop.example/g00009/laws.FnPieces" = some 12 by kernel_rfl).symm.trans hf) |>.symm
      obtain rfl : fn = Tryd.f12 := (Option.some.inj (Tryd.func12.symm.trans hfn)).symm
      exact ⟨by kernel_rfl, fun j t ht => by
        rw [Tryd.params12] at ht
        have hm : t ∈ [41, 41] := by simpa using Array.mem_of_getElem? ht
        have hall : ([41, 41].all fun u => !Tryd.prog.wantsStandIn u) = true := by kernel_rfl
        exact (show Tryd.prog.wantsStandIn t = false by simpa using List.all_eq_true.1 hall t hm)⟩)
    (by kernel_rfl)
#print axioms card
end Go.Proofs.YtfgiodolgmfdoaaDoor.fnPieces
namespace Go.Proofs.YtfgiodolgmfdoaaDoor
/-- The card, under a short name, for the claim. -/
theorem fnPieces_holds : Rows.FnPiecesCardSaid := fnPieces.card
end Go.Proofs.YtfgiodolgmfdoaaDoor
