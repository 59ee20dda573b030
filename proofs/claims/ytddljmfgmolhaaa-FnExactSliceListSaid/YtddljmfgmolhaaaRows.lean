/-
  No cell of these rows narrows 'for every input' (looked for: loops, veiled, ifaces, maps, wideKeys, modest, calm, conditions, laid).
  DERIVED. THE GIVEN ROWS OF THIS SEAT. 4 by the template 'for every input the law returns true; each argument reads behind the call as it read before'; 0 by the template 'total and deterministic' (their statements: YtddljmfgmolhaaaTotals.lean).
  GIVEN WITH THE SEED: the statements are not yours to turn. If you find one false, say at which input.
  Laid BY PROGRAM, IN A SANDBOX (cutbox-rows.mjs): the forced cells as the released guide's own fill.sh prints them over the translation ba603bdd8100102b… (all of the seat's roots in one cut). By AI agents, Wed Nov 11 2026. No macro, syntax, notation, axiom, sorry.
-/
import Derived.Test.YtddljmfgmolhaaaChecked
import GoSem.Claim
import GoSem.ClaimJoined
import GoSem.ClaimMapViews
import Derived.JoinedTies
import Derived.KernelRfl
namespace Go.Proofs.Ytddljmfgmolhaaa
/- THE CELL 'sum', in the pinned program and in every row, IS THE sha256 OF THE DUMP (.gsa) THAT YtddljmfgmolhaaaProg.lean LOADS. Nothing in Lean hashes anything: it is a label: what it is worth is what the hold of that sum in a sandbox is worth. -/
noncomputable def Try.pinned : Pinned := { name := "ytddljmfgmolhaaa", sum := "ba603bdd8100102b6dae31563c4cbeef8bef1a6b2055c67d16b05856872a7ddf", checked := Try.checked }
namespace Rows
def none {H : Type} : Left H := { results := [], args := [] }

/-- 'laws.FnExactConstants': WHATEVER THE INPUT: true; the input reads as it did. -/
def fnExactConstantsSpec : ChangeSpec := { name := "fnExactConstants", fn := fun _ => fun
  | [] => { results := [.lit (.bool true)], args := [] }
  | _ => none }
def fnExactConstantsRow : OpenClaim := { program := "ytddljmfgmolhaaa", sum := "ba603bdd8100102b6dae31563c4cbeef8bef1a6b2055c67d16b05856872a7ddf", func := "loop.example/g00009/laws.FnExactConstants", spec := "fnExactConstants", apart := false }
def FnExactConstantsSaid : Prop := fnExactConstantsRow.holds Try.pinned (OpenSpec.ofChange fnExactConstantsSpec)

/-- ITS FALSE NEIGHBOUR: 'it returns false'. Refute it at one input. -/
def fnExactConstantsWrong : ChangeSpec := { name := "fnExactConstants", fn := fun _ => fun
  | [] => { results := [.lit (.bool false)], args := [] }
  | _ => none }
def FnExactConstantsWrongFalsely : Prop := fnExactConstantsRow.holds Try.pinned (OpenSpec.ofChange fnExactConstantsWrong)

/-- 'laws.FnExactBigOk': WHATEVER THE INPUT: true; the input reads as it did. -/
def fnExactBigOkSpec : ChangeSpec := { name := "fnExactBigOk", fn := fun _ => fun
  | [d] => { results := [.lit (.bool true)], args := [d] }
  | _ => none }
def fnExactBigOkRow : OpenClaim := { program := "ytddljmfgmolhaaa", sum := "ba603bdd8100102b6dae31563c4cbeef8bef1a6b2055c67d16b05856872a7ddf", func := "loop.example/g00009/laws.FnExactBigOk", spec := "fnExactBigOk", apart := false }
def FnExactBigOkSaid : Prop := fnExactBigOkRow.holds Try.pinned (OpenSpec.ofChange fnExactBigOkSpec)

/-- ITS FALSE NEIGHBOUR: 'it returns false'. Refute it at one input. -/
def fnExactBigOkWrong : ChangeSpec := { name := "fnExactBigOk", fn := fun _ => fun
  | [d] => { results := [.lit (.bool false)], args := [d] }
  | _ => none }
def FnExactBigOkWrongFalsely : Prop := fnExactBigOkRow.holds Try.pinned (OpenSpec.ofChange fnExactBigOkWrong)

/-- 'laws.FnExactSliceList': WHATEVER THE INPUT: true; the input reads as it did. -/
def fnExactSliceListSpec : ChangeSpec := { name := "fnExactSliceList", fn := fun _ => fun
  | [d1, d2, d3, d4] => { results := [.lit (.bool true)], args := [d1, d2, d3, d4] }
  | _ => none }
def fnExactSliceListRow : OpenClaim := { program := "ytddljmfgmolhaaa", sum := "ba603bdd8100102b6dae31563c4cbeef8bef1a6b2055c67d16b05856872a7ddf", func := "loop.example/g00009/laws.FnExactSliceList", spec := "fnExactSliceList", unfollowed := true, recurses := true, apart := false }
def FnExactSliceListSaid : Prop := fnExactSliceListRow.holds Try.pinned (OpenSpec.ofChange fnExactSliceListSpec)

/-- ITS FALSE NEIGHBOUR: 'it returns false'. Refute it at one input. -/
def fnExactSliceListWrong : ChangeSpec := { name := "fnExactSliceList", fn := fun _ => fun
  | [d1, d2, d3, d4] => { results := [.lit (.bool false)], args := [d1, d2, d3, d4] }
  | _ => none }
def FnExactSliceListWrongFalsely : Prop := fnExactSliceListRow.holds Try.pinned (OpenSpec.ofChange fnExactSliceListWrong)

/-- 'laws.FnExactFloatCmp': WHATEVER THE INPUT: true; the input reads as it did. -/
def fnExactFloatCmpSpec : ChangeSpec := { name := "fnExactFloatCmp", fn := fun _ => fun
  | [d1, d2] => { results := [.lit (.bool true)], args := [d1, d2] }
  | _ => none }
def fnExactFloatCmpRow : OpenClaim := { program := "ytddljmfgmolhaaa", sum := "ba603bdd8100102b6dae31563c4cbeef8bef1a6b2055c67d16b05856872a7ddf", func := "loop.example/g00009/laws.FnExactFloatCmp", spec := "fnExactFloatCmp", inPlace := ["math.Float64frombits"], apart := false }
def FnExactFloatCmpSaid : Prop := fnExactFloatCmpRow.holds Try.pinned (OpenSpec.ofChange fnExactFloatCmpSpec)

/-- ITS FALSE NEIGHBOUR: 'it returns false'. Refute it at one input. -/
def fnExactFloatCmpWrong : ChangeSpec := { name := "fnExactFloatCmp", fn := fun _ => fun
  | [d1, d2] => { results := [.lit (.bool false)], args := [d1, d2] }
  | _ => none }
def FnExactFloatCmpWrongFalsely : Prop := fnExactFloatCmpRow.holds Try.pinned (OpenSpec.ofChange fnExactFloatCmpWrong)

/- THE SECOND FORM. 'bulk': how many values and letters a reading holds, each counted each time it is reached (what is shared counts as often as it is met; a slice's spare places count too). A statement '..UptoSaid' is the law's where the arguments, and the package variables that the reading takes, are together of bulk at most 1048576: NARROWER than '..Said'. Prove '..Said' where nothing that the law and all that it calls make is longer than what came in: it says more and counts as full. Else prove '..UptoSaid'. A law counts once. -/
mutual
def uptoBulk {H : Type} : DataW H → Nat
  | .lit (.string bytes) => bytes.length + 1
  | .lit _ => 1
  | .nil => 1
  | .ptr d => uptoBulk d + 1
  | .slice elems spare => uptoBulkAll elems + uptoBulkAll spare + 1
  | .agg parts => uptoBulkAll parts + 1
  | .iface _ d => uptoBulk d + 1
  | .map entries => uptoBulkEntries entries + 1
  | .held _ => 1
def uptoBulkAll {H : Type} : List (DataW H) → Nat
  | [] => 0
  | d :: r => uptoBulk d + uptoBulkAll r
def uptoBulkEntries {H : Type} : List (Lit × DataW H) → Nat
  | [] => 0
  | x :: r => uptoBulkEntry x + uptoBulkEntries r
def uptoBulkEntry {H : Type} : Lit × DataW H → Nat
  | (.string bytes, d) => bytes.length + uptoBulk d + 1
  | (_, d) => uptoBulk d + 1
 end
def uptoSmall : (H : Type) → List (DataW H) → Bool := fun _ ds => decide (uptoBulkAll ds ≤ 1048576)
def OpenSpec.upto (s : _root_.Go.ChangeSpec) : _root_.Go.OpenSpec := { _root_.Go.OpenSpec.ofChange s with cond := some uptoSmall }

/-- 'laws.FnExactConstants', WHERE WHAT IT READS IS OF BULK AT MOST 1048576: true; the input reads as it did. -/
def fnExactConstantsUptoRow : OpenClaim := { program := "ytddljmfgmolhaaa", sum := "ba603bdd8100102b6dae31563c4cbeef8bef1a6b2055c67d16b05856872a7ddf", func := "loop.example/g00009/laws.FnExactConstants", spec := "fnExactConstants", apart := false, narrowed := true }
def FnExactConstantsUptoSaid : Prop := fnExactConstantsUptoRow.holds Try.pinned (OpenSpec.upto fnExactConstantsSpec)

/-- 'laws.FnExactBigOk', WHERE WHAT IT READS IS OF BULK AT MOST 1048576: true; the input reads as it did. -/
def fnExactBigOkUptoRow : OpenClaim := { program := "ytddljmfgmolhaaa", sum := "ba603bdd8100102b6dae31563c4cbeef8bef1a6b2055c67d16b05856872a7ddf", func := "loop.example/g00009/laws.FnExactBigOk", spec := "fnExactBigOk", apart := false, narrowed := true }
def FnExactBigOkUptoSaid : Prop := fnExactBigOkUptoRow.holds Try.pinned (OpenSpec.upto fnExactBigOkSpec)

/-- 'laws.FnExactSliceList', WHERE WHAT IT READS IS OF BULK AT MOST 1048576: true; the input reads as it did. -/
def fnExactSliceListUptoRow : OpenClaim := { program := "ytddljmfgmolhaaa", sum := "ba603bdd8100102b6dae31563c4cbeef8bef1a6b2055c67d16b05856872a7ddf", func := "loop.example/g00009/laws.FnExactSliceList", spec := "fnExactSliceList", unfollowed := true, recurses := true, apart := false, narrowed := true }
def FnExactSliceListUptoSaid : Prop := fnExactSliceListUptoRow.holds Try.pinned (OpenSpec.upto fnExactSliceListSpec)

/-- 'laws.FnExactFloatCmp', WHERE WHAT IT READS IS OF BULK AT MOST 1048576: true; the input reads as it did. -/
def fnExactFloatCmpUptoRow : OpenClaim := { program := "ytddljmfgmolhaaa", sum := "ba603bdd8100102b6dae31563c4cbeef8bef1a6b2055c67d16b05856872a7ddf", func := "loop.example/g00009/laws.FnExactFloatCmp", spec := "fnExactFloatCmp", inPlace := ["math.Float64frombits"], apart := false, narrowed := true }
def FnExactFloatCmpUptoSaid : Prop := fnExactFloatCmpUptoRow.holds Try.pinned (OpenSpec.upto fnExactFloatCmpSpec)

end Rows
end Go.Proofs.Ytddljmfgmolhaaa
