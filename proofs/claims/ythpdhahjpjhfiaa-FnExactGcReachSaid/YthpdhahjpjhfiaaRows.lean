/-
  No cell of these rows narrows 'for every input' (looked for: loops, veiled, ifaces, maps, wideKeys, modest, calm, conditions, laid).
  DERIVED. THE GIVEN ROWS OF THIS SEAT. 4 by the template 'for every input the law returns true; each argument reads behind the call as it read before'; 0 by the template 'total and deterministic' (their statements: YthpdhahjpjhfiaaTotals.lean).
  GIVEN WITH THE SEED: the statements are not yours to turn. If you find one false, say at which input.
  Laid BY PROGRAM, IN A SANDBOX (cutbox-rows.mjs): the forced cells as the released guide's own fill.sh prints them over the translation f2e43efa472b6be4… (all of the seat's roots in one cut). By AI agents, Wed Nov 11 2026. No macro, syntax, notation, axiom, sorry.
-/
import Derived.Test.YthpdhahjpjhfiaaChecked
import GoSem.Claim
import GoSem.ClaimJoined
import GoSem.ClaimMapViews
import Derived.JoinedTies
import Derived.KernelRfl
namespace Go.Proofs.Ythpdhahjpjhfiaa
/- THE CELL 'sum', in the pinned program and in every row, IS THE sha256 OF THE DUMP (.gsa) THAT YthpdhahjpjhfiaaProg.lean LOADS. Nothing in Lean hashes anything: it is a label: what it is worth is what the hold of that sum in a sandbox is worth. -/
noncomputable def Try.pinned : Pinned := { name := "ythpdhahjpjhfiaa", sum := "f2e43efa472b6be4fb9a51f1b0c88d00390b0545b6f25162973931ff125b949f", checked := Try.checked }
namespace Rows
def none {H : Type} : Left H := { results := [], args := [] }

/-- 'laws.FnExactGcReach': WHATEVER THE INPUT: true; the input reads as it did. -/
def fnExactGcReachSpec : ChangeSpec := { name := "fnExactGcReach", fn := fun _ => fun
  | [d1, d2, d3] => { results := [.lit (.bool true)], args := [d1, d2, d3] }
  | _ => none }
def fnExactGcReachRow : OpenClaim := { program := "ythpdhahjpjhfiaa", sum := "f2e43efa472b6be4fb9a51f1b0c88d00390b0545b6f25162973931ff125b949f", func := "loop.example/g00009/laws.FnExactGcReach", spec := "fnExactGcReach", unfollowed := true, recurses := true, apart := false }
def FnExactGcReachSaid : Prop := fnExactGcReachRow.holds Try.pinned (OpenSpec.ofChange fnExactGcReachSpec)

/-- ITS FALSE NEIGHBOUR: 'it returns false'. Refute it at one input. -/
def fnExactGcReachWrong : ChangeSpec := { name := "fnExactGcReach", fn := fun _ => fun
  | [d1, d2, d3] => { results := [.lit (.bool false)], args := [d1, d2, d3] }
  | _ => none }
def FnExactGcReachWrongFalsely : Prop := fnExactGcReachRow.holds Try.pinned (OpenSpec.ofChange fnExactGcReachWrong)

/-- 'laws.FnReached': WHATEVER THE INPUT: true; the input reads as it did. -/
def fnReachedSpec : ChangeSpec := { name := "fnReached", fn := fun _ => fun
  | [d] => { results := [.lit (.bool true)], args := [d] }
  | _ => none }
def fnReachedRow : OpenClaim := { program := "ythpdhahjpjhfiaa", sum := "f2e43efa472b6be4fb9a51f1b0c88d00390b0545b6f25162973931ff125b949f", func := "loop.example/g00009/laws.FnReached", spec := "fnReached", unfollowed := true, recurses := true, apart := false }
def FnReachedSaid : Prop := fnReachedRow.holds Try.pinned (OpenSpec.ofChange fnReachedSpec)

/-- ITS FALSE NEIGHBOUR: 'it returns false'. Refute it at one input. -/
def fnReachedWrong : ChangeSpec := { name := "fnReached", fn := fun _ => fun
  | [d] => { results := [.lit (.bool false)], args := [d] }
  | _ => none }
def FnReachedWrongFalsely : Prop := fnReachedRow.holds Try.pinned (OpenSpec.ofChange fnReachedWrong)

/-- 'laws.FnAllFreed': WHATEVER THE INPUT: true; the input reads as it did. -/
def fnAllFreedSpec : ChangeSpec := { name := "fnAllFreed", fn := fun _ => fun
  | [d] => { results := [.lit (.bool true)], args := [d] }
  | _ => none }
def fnAllFreedRow : OpenClaim := { program := "ythpdhahjpjhfiaa", sum := "f2e43efa472b6be4fb9a51f1b0c88d00390b0545b6f25162973931ff125b949f", func := "loop.example/g00009/laws.FnAllFreed", spec := "fnAllFreed", unfollowed := true, recurses := true, apart := false }
def FnAllFreedSaid : Prop := fnAllFreedRow.holds Try.pinned (OpenSpec.ofChange fnAllFreedSpec)

/-- ITS FALSE NEIGHBOUR: 'it returns false'. Refute it at one input. -/
def fnAllFreedWrong : ChangeSpec := { name := "fnAllFreed", fn := fun _ => fun
  | [d] => { results := [.lit (.bool false)], args := [d] }
  | _ => none }
def FnAllFreedWrongFalsely : Prop := fnAllFreedRow.holds Try.pinned (OpenSpec.ofChange fnAllFreedWrong)

/-- 'laws.FnExactGcRun': WHATEVER THE INPUT: true; the input reads as it did. -/
def fnExactGcRunSpec : ChangeSpec := { name := "fnExactGcRun", fn := fun _ => fun
  | [d] => { results := [.lit (.bool true)], args := [d] }
  | _ => none }
def fnExactGcRunRow : OpenClaim := { program := "ythpdhahjpjhfiaa", sum := "f2e43efa472b6be4fb9a51f1b0c88d00390b0545b6f25162973931ff125b949f", func := "loop.example/g00009/laws.FnExactGcRun", spec := "fnExactGcRun", unfollowed := true, recurses := true, apart := false }
def FnExactGcRunSaid : Prop := fnExactGcRunRow.holds Try.pinned (OpenSpec.ofChange fnExactGcRunSpec)

/-- ITS FALSE NEIGHBOUR: 'it returns false'. Refute it at one input. -/
def fnExactGcRunWrong : ChangeSpec := { name := "fnExactGcRun", fn := fun _ => fun
  | [d] => { results := [.lit (.bool false)], args := [d] }
  | _ => none }
def FnExactGcRunWrongFalsely : Prop := fnExactGcRunRow.holds Try.pinned (OpenSpec.ofChange fnExactGcRunWrong)

/- THE SECOND FORM. 'bulk': how many values and letters a reading holds, each counted each time it is reached (what is shared counts as often as it is met; a slice's spare places count too). A statement '..UptoSaid' is the law's where the arguments, and the package variables that the reading takes, are together of bulk at most 1048576: NARROWER than '..Said'. Prove '..Said' where nothing that the law and all that it calls make is longer than what came in: it says more and counts as full. Else prove '..UptoSaid'. A law counts once. -/
mutual
def uptoBulk {H : Type} : DataW H → Nat
  | .lit (.string bytes) => bytes.length + 1
  | .lit _ => 1
  | .nil => 1
  | .ptr d => uptoBulk d + 1
  | .slice elems spare => uptoBulkAll elems + uptoBulkAll spare + 1
  | .agg parts => uptoBulkAll parts + 1
  | .iface _ d => uptoBulk d + 1
  | .map entries => uptoBulkEntries entries + 1
  | .held _ => 1
def uptoBulkAll {H : Type} : List (DataW H) → Nat
  | [] => 0
  | d :: r => uptoBulk d + uptoBulkAll r
def uptoBulkEntries {H : Type} : List (Lit × DataW H) → Nat
  | [] => 0
  | x :: r => uptoBulkEntry x + uptoBulkEntries r
def uptoBulkEntry {H : Type} : Lit × DataW H → Nat
  | (.string bytes, d) => bytes.length + uptoBulk d + 1
  | (_, d) => uptoBulk d + 1
 end
def uptoSmall : (H : Type) → List (DataW H) → Bool := fun _ ds => decide (uptoBulkAll ds ≤ 1048576)
def OpenSpec.upto (s : _root_.Go.ChangeSpec) : _root_.Go.OpenSpec := { _root_.Go.OpenSpec.ofChange s with cond := some uptoSmall }

/-- 'laws.FnExactGcReach', WHERE WHAT IT READS IS OF BULK AT MOST 1048576: true; the input reads as it did. -/
def fnExactGcReachUptoRow : OpenClaim := { program := "ythpdhahjpjhfiaa", sum := "f2e43efa472b6be4fb9a51f1b0c88d00390b0545b6f25162973931ff125b949f", func := "loop.example/g00009/laws.FnExactGcReach", spec := "fnExactGcReach", unfollowed := true, recurses := true, apart := false, narrowed := true }
def FnExactGcReachUptoSaid : Prop := fnExactGcReachUptoRow.holds Try.pinned (OpenSpec.upto fnExactGcReachSpec)

/-- 'laws.FnReached', WHERE WHAT IT READS IS OF BULK AT MOST 1048576: true; the input reads as it did. -/
def fnReachedUptoRow : OpenClaim := { program := "ythpdhahjpjhfiaa", sum := "f2e43efa472b6be4fb9a51f1b0c88d00390b0545b6f25162973931ff125b949f", func := "loop.example/g00009/laws.FnReached", spec := "fnReached", unfollowed := true, recurses := true, apart := false, narrowed := true }
def FnReachedUptoSaid : Prop := fnReachedUptoRow.holds Try.pinned (OpenSpec.upto fnReachedSpec)

/-- 'laws.FnAllFreed', WHERE WHAT IT READS IS OF BULK AT MOST 1048576: true; the input reads as it did. -/
def fnAllFreedUptoRow : OpenClaim := { program := "ythpdhahjpjhfiaa", sum := "f2e43efa472b6be4fb9a51f1b0c88d00390b0545b6f25162973931ff125b949f", func := "loop.example/g00009/laws.FnAllFreed", spec := "fnAllFreed", unfollowed := true, recurses := true, apart := false, narrowed := true }
def FnAllFreedUptoSaid : Prop := fnAllFreedUptoRow.holds Try.pinned (OpenSpec.upto fnAllFreedSpec)

/-- 'laws.FnExactGcRun', WHERE WHAT IT READS IS OF BULK AT MOST 1048576: true; the input reads as it did. -/
def fnExactGcRunUptoRow : OpenClaim := { program := "ythpdhahjpjhfiaa", sum := "f2e43efa472b6be4fb9a51f1b0c88d00390b0545b6f25162973931ff125b949f", func := "loop.example/g00009/laws.FnExactGcRun", spec := "fnExactGcRun", unfollowed := true, recurses := true, apart := false, narrowed := true }
def FnExactGcRunUptoSaid : Prop := fnExactGcRunUptoRow.holds Try.pinned (OpenSpec.upto fnExactGcRunSpec)

end Rows
end Go.Proofs.Ythpdhahjpjhfiaa
