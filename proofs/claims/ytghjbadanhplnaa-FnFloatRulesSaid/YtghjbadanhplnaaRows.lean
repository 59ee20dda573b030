/-
  No cell of these rows narrows 'for every input' (looked for: loops, veiled, ifaces, maps, wideKeys, modest, calm, conditions, laid).
  DERIVED. THE GIVEN ROWS OF THIS SEAT. 3 by the template 'for every input the law returns true; each argument reads behind the call as it read before'; 0 by the template 'total and deterministic' (their statements: YtghjbadanhplnaaTotals.lean).
  GIVEN WITH THE SEED: the statements are not yours to turn. If you find one false, say at which input.
  Laid BY PROGRAM, IN A SANDBOX (cutbox-rows.mjs): the forced cells as the released guide's own fill.sh prints them over the translation f26eda6536ef5501… (all of the seat's roots in one cut). By AI agents, Wed Nov 11 2026. No macro, syntax, notation, axiom, sorry.
-/
import Derived.Test.YtghjbadanhplnaaChecked
import GoSem.Claim
import GoSem.ClaimJoined
import GoSem.ClaimMapViews
import Derived.JoinedTies
import Derived.KernelRfl
namespace Go.Proofs.Ytghjbadanhplnaa
/- THE CELL 'sum', in the pinned program and in every row, IS THE sha256 OF THE DUMP (.gsa) THAT YtghjbadanhplnaaProg.lean LOADS. Nothing in Lean hashes anything: it is a label: what it is worth is what the hold of that sum in a sandbox is worth. -/
noncomputable def Try.pinned : Pinned := { name := "ytghjbadanhplnaa", sum := "f26eda6536ef5501e2e9337685da0282248884a196327c17aff79bce25411aa1", checked := Try.checked }
namespace Rows
def none {H : Type} : Left H := { results := [], args := [] }

/-- 'laws.FnExactFloatCmp': WHATEVER THE INPUT: true; the input reads as it did. -/
def fnExactFloatCmpSpec : ChangeSpec := { name := "fnExactFloatCmp", fn := fun _ => fun
  | [d1, d2] => { results := [.lit (.bool true)], args := [d1, d2] }
  | _ => none }
def fnExactFloatCmpRow : OpenClaim := { program := "ytghjbadanhplnaa", sum := "f26eda6536ef5501e2e9337685da0282248884a196327c17aff79bce25411aa1", func := "loop.example/g00009/laws.FnExactFloatCmp", spec := "fnExactFloatCmp", inPlace := ["math.Float64frombits"], apart := false }
def FnExactFloatCmpSaid : Prop := fnExactFloatCmpRow.holds Try.pinned (OpenSpec.ofChange fnExactFloatCmpSpec)

/-- ITS FALSE NEIGHBOUR: 'it returns false'. Refute it at one input. -/
def fnExactFloatCmpWrong : ChangeSpec := { name := "fnExactFloatCmp", fn := fun _ => fun
  | [d1, d2] => { results := [.lit (.bool false)], args := [d1, d2] }
  | _ => none }
def FnExactFloatCmpWrongFalsely : Prop := fnExactFloatCmpRow.holds Try.pinned (OpenSpec.ofChange fnExactFloatCmpWrong)

/-- 'laws.FnExactFloatOp': WHATEVER THE INPUT: true; the input reads as it did. -/
def fnExactFloatOpSpec : ChangeSpec := { name := "fnExactFloatOp", fn := fun _ => fun
  | [d1, d2, d3] => { results := [.lit (.bool true)], args := [d1, d2, d3] }
  | _ => none }
def fnExactFloatOpRow : OpenClaim := { program := "ytghjbadanhplnaa", sum := "f26eda6536ef5501e2e9337685da0282248884a196327c17aff79bce25411aa1", func := "loop.example/g00009/laws.FnExactFloatOp", spec := "fnExactFloatOp", inPlace := ["math.Float64frombits", "math.Float64bits", "math.archFloor", "math.archTrunc"], unfollowed := true, recurses := true, apart := false }
def FnExactFloatOpSaid : Prop := fnExactFloatOpRow.holds Try.pinned (OpenSpec.ofChange fnExactFloatOpSpec)

/-- ITS FALSE NEIGHBOUR: 'it returns false'. Refute it at one input. -/
def fnExactFloatOpWrong : ChangeSpec := { name := "fnExactFloatOp", fn := fun _ => fun
  | [d1, d2, d3] => { results := [.lit (.bool false)], args := [d1, d2, d3] }
  | _ => none }
def FnExactFloatOpWrongFalsely : Prop := fnExactFloatOpRow.holds Try.pinned (OpenSpec.ofChange fnExactFloatOpWrong)

/-- 'laws.FnFloatRules': WHATEVER THE INPUT: true; the input reads as it did. -/
def fnFloatRulesSpec : ChangeSpec := { name := "fnFloatRules", fn := fun _ => fun
  | [d] => { results := [.lit (.bool true)], args := [d] }
  | _ => none }
def fnFloatRulesRow : OpenClaim := { program := "ytghjbadanhplnaa", sum := "f26eda6536ef5501e2e9337685da0282248884a196327c17aff79bce25411aa1", func := "loop.example/g00009/laws.FnFloatRules", spec := "fnFloatRules", inPlace := ["math.Float64frombits", "math.Float64bits", "math.archFloor", "math.archTrunc"], unfollowed := true, recurses := true, apart := false }
def FnFloatRulesSaid : Prop := fnFloatRulesRow.holds Try.pinned (OpenSpec.ofChange fnFloatRulesSpec)

/-- ITS FALSE NEIGHBOUR: 'it returns false'. Refute it at one input. -/
def fnFloatRulesWrong : ChangeSpec := { name := "fnFloatRules", fn := fun _ => fun
  | [d] => { results := [.lit (.bool false)], args := [d] }
  | _ => none }
def FnFloatRulesWrongFalsely : Prop := fnFloatRulesRow.holds Try.pinned (OpenSpec.ofChange fnFloatRulesWrong)

/- THE SECOND FORM. 'bulk': how many values and letters a reading holds, each counted each time it is reached (what is shared counts as often as it is met; a slice's spare places count too). A statement '..UptoSaid' is the law's where the arguments, and the package variables that the reading takes, are together of bulk at most 1048576: NARROWER than '..Said'. Prove '..Said' where nothing that the law and all that it calls make is longer than what came in: it says more and counts as full. Else prove '..UptoSaid'. A law counts once. -/
mutual
def uptoBulk {H : Type} : DataW H → Nat
  | .lit (.string bytes) => bytes.length + 1
  | .lit _ => 1
  | .nil => 1
  | .ptr d => uptoBulk d + 1
  | .slice elems spare => uptoBulkAll elems + uptoBulkAll spare + 1
  | .agg parts => uptoBulkAll parts + 1
  | .iface _ d => uptoBulk d + 1
  | .map entries => uptoBulkEntries entries + 1
  | .held _ => 1
def uptoBulkAll {H : Type} : List (DataW H) → Nat
  | [] => 0
  | d :: r => uptoBulk d + uptoBulkAll r
def uptoBulkEntries {H : Type} : List (Lit × DataW H) → Nat
  | [] => 0
  | x :: r => uptoBulkEntry x + uptoBulkEntries r
def uptoBulkEntry {H : Type} : Lit × DataW H → Nat
  | (.string bytes, d) => bytes.length + uptoBulk d + 1
  | (_, d) => uptoBulk d + 1
 end
def uptoSmall : (H : Type) → List (DataW H) → Bool := fun _ ds => decide (uptoBulkAll ds ≤ 1048576)
def OpenSpec.upto (s : _root_.Go.ChangeSpec) : _root_.Go.OpenSpec := { _root_.Go.OpenSpec.ofChange s with cond := some uptoSmall }

/-- 'laws.FnExactFloatCmp', WHERE WHAT IT READS IS OF BULK AT MOST 1048576: true; the input reads as it did. -/
def fnExactFloatCmpUptoRow : OpenClaim := { program := "ytghjbadanhplnaa", sum := "f26eda6536ef5501e2e9337685da0282248884a196327c17aff79bce25411aa1", func := "loop.example/g00009/laws.FnExactFloatCmp", spec := "fnExactFloatCmp", inPlace := ["math.Float64frombits"], apart := false, narrowed := true }
def FnExactFloatCmpUptoSaid : Prop := fnExactFloatCmpUptoRow.holds Try.pinned (OpenSpec.upto fnExactFloatCmpSpec)

/-- 'laws.FnExactFloatOp', WHERE WHAT IT READS IS OF BULK AT MOST 1048576: true; the input reads as it did. -/
def fnExactFloatOpUptoRow : OpenClaim := { program := "ytghjbadanhplnaa", sum := "f26eda6536ef5501e2e9337685da0282248884a196327c17aff79bce25411aa1", func := "loop.example/g00009/laws.FnExactFloatOp", spec := "fnExactFloatOp", inPlace := ["math.Float64frombits", "math.Float64bits", "math.archFloor", "math.archTrunc"], unfollowed := true, recurses := true, apart := false, narrowed := true }
def FnExactFloatOpUptoSaid : Prop := fnExactFloatOpUptoRow.holds Try.pinned (OpenSpec.upto fnExactFloatOpSpec)

/-- 'laws.FnFloatRules', WHERE WHAT IT READS IS OF BULK AT MOST 1048576: true; the input reads as it did. -/
def fnFloatRulesUptoRow : OpenClaim := { program := "ytghjbadanhplnaa", sum := "f26eda6536ef5501e2e9337685da0282248884a196327c17aff79bce25411aa1", func := "loop.example/g00009/laws.FnFloatRules", spec := "fnFloatRules", inPlace := ["math.Float64frombits", "math.Float64bits", "math.archFloor", "math.archTrunc"], unfollowed := true, recurses := true, apart := false, narrowed := true }
def FnFloatRulesUptoSaid : Prop := fnFloatRulesUptoRow.holds Try.pinned (OpenSpec.upto fnFloatRulesSpec)

end Rows
end Go.Proofs.Ytghjbadanhplnaa
