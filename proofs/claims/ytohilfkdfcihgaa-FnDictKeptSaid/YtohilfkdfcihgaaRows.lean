/-
  No cell of these rows narrows 'for every input' (looked for: loops, veiled, ifaces, maps, wideKeys, modest, calm, conditions, laid).
  DERIVED. THE GIVEN ROWS OF THIS SEAT. 8 by the template 'for every input the law returns true; each argument reads behind the call as it read before'; 0 by the template 'total and deterministic' (their statements: YtohilfkdfcihgaaTotals.lean).
  GIVEN WITH THE SEED: the statements are not yours to turn. If you find one false, say at which input.
  Laid BY PROGRAM, IN A SANDBOX (cutbox-rows.mjs): the forced cells as the released guide's own fill.sh prints them over the translation 0bb13f9e98f660b5… (all of the seat's roots in one cut). By AI agents, Wed Nov 11 2026. No macro, syntax, notation, axiom, sorry.
-/
import Derived.Test.YtohilfkdfcihgaaChecked
import GoSem.Claim
import GoSem.ClaimJoined
import GoSem.ClaimMapViews
import Derived.JoinedTies
import Derived.KernelRfl
namespace Go.Proofs.Ytohilfkdfcihgaa
/- THE CELL 'sum', in the pinned program and in every row, IS THE sha256 OF THE DUMP (.gsa) THAT YtohilfkdfcihgaaProg.lean LOADS. Nothing in Lean hashes anything: it is a label: what it is worth is what the hold of that sum in a sandbox is worth. -/
noncomputable def Try.pinned : Pinned := { name := "ytohilfkdfcihgaa", sum := "0bb13f9e98f660b5927a546cff3a1cbfd1fe5f3d06de63b5395fe63ce51bfff2", checked := Try.checked }
namespace Rows
def none {H : Type} : Left H := { results := [], args := [] }

/-- 'laws.FnExactNewDict': WHATEVER THE INPUT: true; the input reads as it did. -/
def fnExactNewDictSpec : ChangeSpec := { name := "fnExactNewDict", fn := fun _ => fun
  | [] => { results := [.lit (.bool true)], args := [] }
  | _ => none }
def fnExactNewDictRow : OpenClaim := { program := "ytohilfkdfcihgaa", sum := "0bb13f9e98f660b5927a546cff3a1cbfd1fe5f3d06de63b5395fe63ce51bfff2", func := "loop.example/g00009/laws.FnExactNewDict", spec := "fnExactNewDict", plainKeys := false, apart := false }
def FnExactNewDictSaid : Prop := fnExactNewDictRow.holds Try.pinned (OpenSpec.ofChange fnExactNewDictSpec)

/-- ITS FALSE NEIGHBOUR: 'it returns false'. Refute it at one input. -/
def fnExactNewDictWrong : ChangeSpec := { name := "fnExactNewDict", fn := fun _ => fun
  | [] => { results := [.lit (.bool false)], args := [] }
  | _ => none }
def FnExactNewDictWrongFalsely : Prop := fnExactNewDictRow.holds Try.pinned (OpenSpec.ofChange fnExactNewDictWrong)

/-- 'laws.FnDictMap': WHATEVER THE INPUT: true; the input reads as it did. -/
def fnDictMapSpec : ChangeSpec := { name := "fnDictMap", fn := fun _ => fun
  | [d] => { results := [.lit (.bool true)], args := [d] }
  | _ => none }
def fnDictMapRow : OpenClaim := { program := "ytohilfkdfcihgaa", sum := "0bb13f9e98f660b5927a546cff3a1cbfd1fe5f3d06de63b5395fe63ce51bfff2", func := "loop.example/g00009/laws.FnDictMap", spec := "fnDictMap", unfollowed := true, recurses := true, plainKeys := false, apart := false }
def FnDictMapSaid : Prop := fnDictMapRow.holds Try.pinned (OpenSpec.ofChange fnDictMapSpec)

/-- ITS FALSE NEIGHBOUR: 'it returns false'. Refute it at one input. -/
def fnDictMapWrong : ChangeSpec := { name := "fnDictMap", fn := fun _ => fun
  | [d] => { results := [.lit (.bool false)], args := [d] }
  | _ => none }
def FnDictMapWrongFalsely : Prop := fnDictMapRow.holds Try.pinned (OpenSpec.ofChange fnDictMapWrong)

/-- 'laws.FnExactDictOk': WHATEVER THE INPUT: true; the input reads as it did. -/
def fnExactDictOkSpec : ChangeSpec := { name := "fnExactDictOk", fn := fun _ => fun
  | [d] => { results := [.lit (.bool true)], args := [d] }
  | _ => none }
def fnExactDictOkRow : OpenClaim := { program := "ytohilfkdfcihgaa", sum := "0bb13f9e98f660b5927a546cff3a1cbfd1fe5f3d06de63b5395fe63ce51bfff2", func := "loop.example/g00009/laws.FnExactDictOk", spec := "fnExactDictOk", unfollowed := true, recurses := true, plainKeys := false, apart := false }
def FnExactDictOkSaid : Prop := fnExactDictOkRow.holds Try.pinned (OpenSpec.ofChange fnExactDictOkSpec)

/-- ITS FALSE NEIGHBOUR: 'it returns false'. Refute it at one input. -/
def fnExactDictOkWrong : ChangeSpec := { name := "fnExactDictOk", fn := fun _ => fun
  | [d] => { results := [.lit (.bool false)], args := [d] }
  | _ => none }
def FnExactDictOkWrongFalsely : Prop := fnExactDictOkRow.holds Try.pinned (OpenSpec.ofChange fnExactDictOkWrong)

/-- 'laws.FnExactDictFind': WHATEVER THE INPUT: true; the input reads as it did. -/
def fnExactDictFindSpec : ChangeSpec := { name := "fnExactDictFind", fn := fun _ => fun
  | [d1, d2, d3] => { results := [.lit (.bool true)], args := [d1, d2, d3] }
  | _ => none }
def fnExactDictFindRow : OpenClaim := { program := "ytohilfkdfcihgaa", sum := "0bb13f9e98f660b5927a546cff3a1cbfd1fe5f3d06de63b5395fe63ce51bfff2", func := "loop.example/g00009/laws.FnExactDictFind", spec := "fnExactDictFind", unfollowed := true, recurses := true, plainKeys := false, apart := false }
def FnExactDictFindSaid : Prop := fnExactDictFindRow.holds Try.pinned (OpenSpec.ofChange fnExactDictFindSpec)

/-- ITS FALSE NEIGHBOUR: 'it returns false'. Refute it at one input. -/
def fnExactDictFindWrong : ChangeSpec := { name := "fnExactDictFind", fn := fun _ => fun
  | [d1, d2, d3] => { results := [.lit (.bool false)], args := [d1, d2, d3] }
  | _ => none }
def FnExactDictFindWrongFalsely : Prop := fnExactDictFindRow.holds Try.pinned (OpenSpec.ofChange fnExactDictFindWrong)

/-- 'laws.FnExactDictRun': WHATEVER THE INPUT: true; the input reads as it did. -/
def fnExactDictRunSpec : ChangeSpec := { name := "fnExactDictRun", fn := fun _ => fun
  | [d] => { results := [.lit (.bool true)], args := [d] }
  | _ => none }
def fnExactDictRunRow : OpenClaim := { program := "ytohilfkdfcihgaa", sum := "0bb13f9e98f660b5927a546cff3a1cbfd1fe5f3d06de63b5395fe63ce51bfff2", func := "loop.example/g00009/laws.FnExactDictRun", spec := "fnExactDictRun", unfollowed := true, recurses := true, plainKeys := false, apart := false }
def FnExactDictRunSaid : Prop := fnExactDictRunRow.holds Try.pinned (OpenSpec.ofChange fnExactDictRunSpec)

/-- ITS FALSE NEIGHBOUR: 'it returns false'. Refute it at one input. -/
def fnExactDictRunWrong : ChangeSpec := { name := "fnExactDictRun", fn := fun _ => fun
  | [d] => { results := [.lit (.bool false)], args := [d] }
  | _ => none }
def FnExactDictRunWrongFalsely : Prop := fnExactDictRunRow.holds Try.pinned (OpenSpec.ofChange fnExactDictRunWrong)

/-- 'laws.FnExactDictCut': WHATEVER THE INPUT: true; the input reads as it did. -/
def fnExactDictCutSpec : ChangeSpec := { name := "fnExactDictCut", fn := fun _ => fun
  | [d1, d2, d3] => { results := [.lit (.bool true)], args := [d1, d2, d3] }
  | _ => none }
def fnExactDictCutRow : OpenClaim := { program := "ytohilfkdfcihgaa", sum := "0bb13f9e98f660b5927a546cff3a1cbfd1fe5f3d06de63b5395fe63ce51bfff2", func := "loop.example/g00009/laws.FnExactDictCut", spec := "fnExactDictCut", unfollowed := true, recurses := true, plainKeys := false, apart := false }
def FnExactDictCutSaid : Prop := fnExactDictCutRow.holds Try.pinned (OpenSpec.ofChange fnExactDictCutSpec)

/-- ITS FALSE NEIGHBOUR: 'it returns false'. Refute it at one input. -/
def fnExactDictCutWrong : ChangeSpec := { name := "fnExactDictCut", fn := fun _ => fun
  | [d1, d2, d3] => { results := [.lit (.bool false)], args := [d1, d2, d3] }
  | _ => none }
def FnExactDictCutWrongFalsely : Prop := fnExactDictCutRow.holds Try.pinned (OpenSpec.ofChange fnExactDictCutWrong)

/-- 'laws.FnDictKept': WHATEVER THE INPUT: true; the input reads as it did. -/
def fnDictKeptSpec : ChangeSpec := { name := "fnDictKept", fn := fun _ => fun
  | [d] => { results := [.lit (.bool true)], args := [d] }
  | _ => none }
def fnDictKeptRow : OpenClaim := { program := "ytohilfkdfcihgaa", sum := "0bb13f9e98f660b5927a546cff3a1cbfd1fe5f3d06de63b5395fe63ce51bfff2", func := "loop.example/g00009/laws.FnDictKept", spec := "fnDictKept", unfollowed := true, recurses := true, plainKeys := false, apart := false }
def FnDictKeptSaid : Prop := fnDictKeptRow.holds Try.pinned (OpenSpec.ofChange fnDictKeptSpec)

/-- ITS FALSE NEIGHBOUR: 'it returns false'. Refute it at one input. -/
def fnDictKeptWrong : ChangeSpec := { name := "fnDictKept", fn := fun _ => fun
  | [d] => { results := [.lit (.bool false)], args := [d] }
  | _ => none }
def FnDictKeptWrongFalsely : Prop := fnDictKeptRow.holds Try.pinned (OpenSpec.ofChange fnDictKeptWrong)

/-- 'laws.FnExactDictPut': WHATEVER THE INPUT: true; the input reads as it did. -/
def fnExactDictPutSpec : ChangeSpec := { name := "fnExactDictPut", fn := fun _ => fun
  | [d1, d2, d3, d4] => { results := [.lit (.bool true)], args := [d1, d2, d3, d4] }
  | _ => none }
def fnExactDictPutRow : OpenClaim := { program := "ytohilfkdfcihgaa", sum := "0bb13f9e98f660b5927a546cff3a1cbfd1fe5f3d06de63b5395fe63ce51bfff2", func := "loop.example/g00009/laws.FnExactDictPut", spec := "fnExactDictPut", unfollowed := true, recurses := true, plainKeys := false, apart := false }
def FnExactDictPutSaid : Prop := fnExactDictPutRow.holds Try.pinned (OpenSpec.ofChange fnExactDictPutSpec)

/-- ITS FALSE NEIGHBOUR: 'it returns false'. Refute it at one input. -/
def fnExactDictPutWrong : ChangeSpec := { name := "fnExactDictPut", fn := fun _ => fun
  | [d1, d2, d3, d4] => { results := [.lit (.bool false)], args := [d1, d2, d3, d4] }
  | _ => none }
def FnExactDictPutWrongFalsely : Prop := fnExactDictPutRow.holds Try.pinned (OpenSpec.ofChange fnExactDictPutWrong)

/- THE SECOND FORM. 'bulk': how many values and letters a reading holds, each counted each time it is reached (what is shared counts as often as it is met; a slice's spare places count too). A statement '..UptoSaid' is the law's where the arguments, and the package variables that the reading takes, are together of bulk at most 1048576: NARROWER than '..Said'. Prove '..Said' where nothing that the law and all that it calls make is longer than what came in: it says more and counts as full. Else prove '..UptoSaid'. A law counts once. -/
mutual
def uptoBulk {H : Type} : DataW H → Nat
  | .lit (.string bytes) => bytes.length + 1
  | .lit _ => 1
  | .nil => 1
  | .ptr d => uptoBulk d + 1
  | .slice elems spare => uptoBulkAll elems + uptoBulkAll spare + 1
  | .agg parts => uptoBulkAll parts + 1
  | .iface _ d => uptoBulk d + 1
  | .map entries => uptoBulkEntries entries + 1
  | .held _ => 1
def uptoBulkAll {H : Type} : List (DataW H) → Nat
  | [] => 0
  | d :: r => uptoBulk d + uptoBulkAll r
def uptoBulkEntries {H : Type} : List (Lit × DataW H) → Nat
  | [] => 0
  | x :: r => uptoBulkEntry x + uptoBulkEntries r
def uptoBulkEntry {H : Type} : Lit × DataW H → Nat
  | (.string bytes, d) => bytes.length + uptoBulk d + 1
  | (_, d) => uptoBulk d + 1
 end
def uptoSmall : (H : Type) → List (DataW H) → Bool := fun _ ds => decide (uptoBulkAll ds ≤ 1048576)
def OpenSpec.upto (s : _root_.Go.ChangeSpec) : _root_.Go.OpenSpec := { _root_.Go.OpenSpec.ofChange s with cond := some uptoSmall }

/-- 'laws.FnExactNewDict', WHERE WHAT IT READS IS OF BULK AT MOST 1048576: true; the input reads as it did. -/
def fnExactNewDictUptoRow : OpenClaim := { program := "ytohilfkdfcihgaa", sum := "0bb13f9e98f660b5927a546cff3a1cbfd1fe5f3d06de63b5395fe63ce51bfff2", func := "loop.example/g00009/laws.FnExactNewDict", spec := "fnExactNewDict", plainKeys := false, apart := false, narrowed := true }
def FnExactNewDictUptoSaid : Prop := fnExactNewDictUptoRow.holds Try.pinned (OpenSpec.upto fnExactNewDictSpec)

/-- 'laws.FnDictMap', WHERE WHAT IT READS IS OF BULK AT MOST 1048576: true; the input reads as it did. -/
def fnDictMapUptoRow : OpenClaim := { program := "ytohilfkdfcihgaa", sum := "0bb13f9e98f660b5927a546cff3a1cbfd1fe5f3d06de63b5395fe63ce51bfff2", func := "loop.example/g00009/laws.FnDictMap", spec := "fnDictMap", unfollowed := true, recurses := true, plainKeys := false, apart := false, narrowed := true }
def FnDictMapUptoSaid : Prop := fnDictMapUptoRow.holds Try.pinned (OpenSpec.upto fnDictMapSpec)

/-- 'laws.FnExactDictOk', WHERE WHAT IT READS IS OF BULK AT MOST 1048576: true; the input reads as it did. -/
def fnExactDictOkUptoRow : OpenClaim := { program := "ytohilfkdfcihgaa", sum := "0bb13f9e98f660b5927a546cff3a1cbfd1fe5f3d06de63b5395fe63ce51bfff2", func := "loop.example/g00009/laws.FnExactDictOk", spec := "fnExactDictOk", unfollowed := true, recurses := true, plainKeys := false, apart := false, narrowed := true }
def FnExactDictOkUptoSaid : Prop := fnExactDictOkUptoRow.holds Try.pinned (OpenSpec.upto fnExactDictOkSpec)

/-- 'laws.FnExactDictFind', WHERE WHAT IT READS IS OF BULK AT MOST 1048576: true; the input reads as it did. -/
def fnExactDictFindUptoRow : OpenClaim := { program := "ytohilfkdfcihgaa", sum := "0bb13f9e98f660b5927a546cff3a1cbfd1fe5f3d06de63b5395fe63ce51bfff2", func := "loop.example/g00009/laws.FnExactDictFind", spec := "fnExactDictFind", unfollowed := true, recurses := true, plainKeys := false, apart := false, narrowed := true }
def FnExactDictFindUptoSaid : Prop := fnExactDictFindUptoRow.holds Try.pinned (OpenSpec.upto fnExactDictFindSpec)

/-- 'laws.FnExactDictRun', WHERE WHAT IT READS IS OF BULK AT MOST 1048576: true; the input reads as it did. -/
def fnExactDictRunUptoRow : OpenClaim := { program := "ytohilfkdfcihgaa", sum := "0bb13f9e98f660b5927a546cff3a1cbfd1fe5f3d06de63b5395fe63ce51bfff2", func := "loop.example/g00009/laws.FnExactDictRun", spec := "fnExactDictRun", unfollowed := true, recurses := true, plainKeys := false, apart := false, narrowed := true }
def FnExactDictRunUptoSaid : Prop := fnExactDictRunUptoRow.holds Try.pinned (OpenSpec.upto fnExactDictRunSpec)

/-- 'laws.FnExactDictCut', WHERE WHAT IT READS IS OF BULK AT MOST 1048576: true; the input reads as it did. -/
def fnExactDictCutUptoRow : OpenClaim := { program := "ytohilfkdfcihgaa", sum := "0bb13f9e98f660b5927a546cff3a1cbfd1fe5f3d06de63b5395fe63ce51bfff2", func := "loop.example/g00009/laws.FnExactDictCut", spec := "fnExactDictCut", unfollowed := true, recurses := true, plainKeys := false, apart := false, narrowed := true }
def FnExactDictCutUptoSaid : Prop := fnExactDictCutUptoRow.holds Try.pinned (OpenSpec.upto fnExactDictCutSpec)

/-- 'laws.FnDictKept', WHERE WHAT IT READS IS OF BULK AT MOST 1048576: true; the input reads as it did. -/
def fnDictKeptUptoRow : OpenClaim := { program := "ytohilfkdfcihgaa", sum := "0bb13f9e98f660b5927a546cff3a1cbfd1fe5f3d06de63b5395fe63ce51bfff2", func := "loop.example/g00009/laws.FnDictKept", spec := "fnDictKept", unfollowed := true, recurses := true, plainKeys := false, apart := false, narrowed := true }
def FnDictKeptUptoSaid : Prop := fnDictKeptUptoRow.holds Try.pinned (OpenSpec.upto fnDictKeptSpec)

/-- 'laws.FnExactDictPut', WHERE WHAT IT READS IS OF BULK AT MOST 1048576: true; the input reads as it did. -/
def fnExactDictPutUptoRow : OpenClaim := { program := "ytohilfkdfcihgaa", sum := "0bb13f9e98f660b5927a546cff3a1cbfd1fe5f3d06de63b5395fe63ce51bfff2", func := "loop.example/g00009/laws.FnExactDictPut", spec := "fnExactDictPut", unfollowed := true, recurses := true, plainKeys := false, apart := false, narrowed := true }
def FnExactDictPutUptoSaid : Prop := fnExactDictPutUptoRow.holds Try.pinned (OpenSpec.upto fnExactDictPutSpec)

end Rows
end Go.Proofs.Ytohilfkdfcihgaa
