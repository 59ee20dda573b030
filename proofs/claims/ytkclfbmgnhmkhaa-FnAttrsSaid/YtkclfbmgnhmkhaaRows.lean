/-
  No cell of these rows narrows 'for every input' (looked for: loops, veiled, ifaces, maps, wideKeys, modest, calm, conditions, laid).
  DERIVED. THE GIVEN ROWS OF THIS SEAT. 7 by the template 'for every input the law returns true; each argument reads behind the call as it read before'; 0 by the template 'total and deterministic' (their statements: YtkclfbmgnhmkhaaTotals.lean).
  GIVEN WITH THE SEED: the statements are not yours to turn. If you find one false, say at which input.
  Laid BY PROGRAM, IN A SANDBOX (cutbox-rows.mjs): the forced cells as the released guide's own fill.sh prints them over the translation a0544abb0bad0f78… (all of the seat's roots in one cut). By AI agents, Wed Nov 11 2026. No macro, syntax, notation, axiom, sorry.
-/
import Derived.Test.YtkclfbmgnhmkhaaChecked
import GoSem.Claim
import GoSem.ClaimJoined
import GoSem.ClaimMapViews
import Derived.JoinedTies
import Derived.KernelRfl
namespace Go.Proofs.Ytkclfbmgnhmkhaa
/- THE CELL 'sum', in the pinned program and in every row, IS THE sha256 OF THE DUMP (.gsa) THAT YtkclfbmgnhmkhaaProg.lean LOADS. Nothing in Lean hashes anything: it is a label: what it is worth is what the hold of that sum in a sandbox is worth. -/
noncomputable def Try.pinned : Pinned := { name := "ytkclfbmgnhmkhaa", sum := "a0544abb0bad0f78e7159cb50564af5375f0ff6f453c38897a280227447c4bb8", checked := Try.checked }
namespace Rows
def none {H : Type} : Left H := { results := [], args := [] }

/-- 'laws.FnExactClassesOk': WHATEVER THE INPUT: true; the input reads as it did. -/
def fnExactClassesOkSpec : ChangeSpec := { name := "fnExactClassesOk", fn := fun _ => fun
  | [d] => { results := [.lit (.bool true)], args := [d] }
  | _ => none }
def fnExactClassesOkRow : OpenClaim := { program := "ytkclfbmgnhmkhaa", sum := "a0544abb0bad0f78e7159cb50564af5375f0ff6f453c38897a280227447c4bb8", func := "loop.example/g00009/laws.FnExactClassesOk", spec := "fnExactClassesOk", apart := false }
def FnExactClassesOkSaid : Prop := fnExactClassesOkRow.holds Try.pinned (OpenSpec.ofChange fnExactClassesOkSpec)

/-- ITS FALSE NEIGHBOUR: 'it returns false'. Refute it at one input. -/
def fnExactClassesOkWrong : ChangeSpec := { name := "fnExactClassesOk", fn := fun _ => fun
  | [d] => { results := [.lit (.bool false)], args := [d] }
  | _ => none }
def FnExactClassesOkWrongFalsely : Prop := fnExactClassesOkRow.holds Try.pinned (OpenSpec.ofChange fnExactClassesOkWrong)

/-- 'laws.FnLines': WHATEVER THE INPUT: true; the input reads as it did. -/
def fnLinesSpec : ChangeSpec := { name := "fnLines", fn := fun _ => fun
  | [d] => { results := [.lit (.bool true)], args := [d] }
  | _ => none }
def fnLinesRow : OpenClaim := { program := "ytkclfbmgnhmkhaa", sum := "a0544abb0bad0f78e7159cb50564af5375f0ff6f453c38897a280227447c4bb8", func := "loop.example/g00009/laws.FnLines", spec := "fnLines", unfollowed := true, recurses := true, apart := false }
def FnLinesSaid : Prop := fnLinesRow.holds Try.pinned (OpenSpec.ofChange fnLinesSpec)

/-- ITS FALSE NEIGHBOUR: 'it returns false'. Refute it at one input. -/
def fnLinesWrong : ChangeSpec := { name := "fnLines", fn := fun _ => fun
  | [d] => { results := [.lit (.bool false)], args := [d] }
  | _ => none }
def FnLinesWrongFalsely : Prop := fnLinesRow.holds Try.pinned (OpenSpec.ofChange fnLinesWrong)

/-- 'laws.FnAttrs': WHATEVER THE INPUT: true; the input reads as it did. -/
def fnAttrsSpec : ChangeSpec := { name := "fnAttrs", fn := fun _ => fun
  | [d] => { results := [.lit (.bool true)], args := [d] }
  | _ => none }
def fnAttrsRow : OpenClaim := { program := "ytkclfbmgnhmkhaa", sum := "a0544abb0bad0f78e7159cb50564af5375f0ff6f453c38897a280227447c4bb8", func := "loop.example/g00009/laws.FnAttrs", spec := "fnAttrs", unfollowed := true, recurses := true, apart := false }
def FnAttrsSaid : Prop := fnAttrsRow.holds Try.pinned (OpenSpec.ofChange fnAttrsSpec)

/-- ITS FALSE NEIGHBOUR: 'it returns false'. Refute it at one input. -/
def fnAttrsWrong : ChangeSpec := { name := "fnAttrs", fn := fun _ => fun
  | [d] => { results := [.lit (.bool false)], args := [d] }
  | _ => none }
def FnAttrsWrongFalsely : Prop := fnAttrsRow.holds Try.pinned (OpenSpec.ofChange fnAttrsWrong)

/-- 'laws.FnExactAttrSet': WHATEVER THE INPUT: true; the input reads as it did. -/
def fnExactAttrSetSpec : ChangeSpec := { name := "fnExactAttrSet", fn := fun _ => fun
  | [d1, d2, d3, d4] => { results := [.lit (.bool true)], args := [d1, d2, d3, d4] }
  | _ => none }
def fnExactAttrSetRow : OpenClaim := { program := "ytkclfbmgnhmkhaa", sum := "a0544abb0bad0f78e7159cb50564af5375f0ff6f453c38897a280227447c4bb8", func := "loop.example/g00009/laws.FnExactAttrSet", spec := "fnExactAttrSet", unfollowed := true, recurses := true, apart := false }
def FnExactAttrSetSaid : Prop := fnExactAttrSetRow.holds Try.pinned (OpenSpec.ofChange fnExactAttrSetSpec)

/-- ITS FALSE NEIGHBOUR: 'it returns false'. Refute it at one input. -/
def fnExactAttrSetWrong : ChangeSpec := { name := "fnExactAttrSet", fn := fun _ => fun
  | [d1, d2, d3, d4] => { results := [.lit (.bool false)], args := [d1, d2, d3, d4] }
  | _ => none }
def FnExactAttrSetWrongFalsely : Prop := fnExactAttrSetRow.holds Try.pinned (OpenSpec.ofChange fnExactAttrSetWrong)

/-- 'laws.FnExactAttrGet': WHATEVER THE INPUT: true; the input reads as it did. -/
def fnExactAttrGetSpec : ChangeSpec := { name := "fnExactAttrGet", fn := fun _ => fun
  | [d1, d2, d3, d4] => { results := [.lit (.bool true)], args := [d1, d2, d3, d4] }
  | _ => none }
def fnExactAttrGetRow : OpenClaim := { program := "ytkclfbmgnhmkhaa", sum := "a0544abb0bad0f78e7159cb50564af5375f0ff6f453c38897a280227447c4bb8", func := "loop.example/g00009/laws.FnExactAttrGet", spec := "fnExactAttrGet", unfollowed := true, recurses := true, apart := false }
def FnExactAttrGetSaid : Prop := fnExactAttrGetRow.holds Try.pinned (OpenSpec.ofChange fnExactAttrGetSpec)

/-- ITS FALSE NEIGHBOUR: 'it returns false'. Refute it at one input. -/
def fnExactAttrGetWrong : ChangeSpec := { name := "fnExactAttrGet", fn := fun _ => fun
  | [d1, d2, d3, d4] => { results := [.lit (.bool false)], args := [d1, d2, d3, d4] }
  | _ => none }
def FnExactAttrGetWrongFalsely : Prop := fnExactAttrGetRow.holds Try.pinned (OpenSpec.ofChange fnExactAttrGetWrong)

/-- 'laws.FnExactMroFits': WHATEVER THE INPUT: true; the input reads as it did. -/
def fnExactMroFitsSpec : ChangeSpec := { name := "fnExactMroFits", fn := fun _ => fun
  | [d] => { results := [.lit (.bool true)], args := [d] }
  | _ => none }
def fnExactMroFitsRow : OpenClaim := { program := "ytkclfbmgnhmkhaa", sum := "a0544abb0bad0f78e7159cb50564af5375f0ff6f453c38897a280227447c4bb8", func := "loop.example/g00009/laws.FnExactMroFits", spec := "fnExactMroFits", unfollowed := true, recurses := true, apart := false }
def FnExactMroFitsSaid : Prop := fnExactMroFitsRow.holds Try.pinned (OpenSpec.ofChange fnExactMroFitsSpec)

/-- ITS FALSE NEIGHBOUR: 'it returns false'. Refute it at one input. -/
def fnExactMroFitsWrong : ChangeSpec := { name := "fnExactMroFits", fn := fun _ => fun
  | [d] => { results := [.lit (.bool false)], args := [d] }
  | _ => none }
def FnExactMroFitsWrongFalsely : Prop := fnExactMroFitsRow.holds Try.pinned (OpenSpec.ofChange fnExactMroFitsWrong)

/-- 'laws.FnExactMro': WHATEVER THE INPUT: true; the input reads as it did. -/
def fnExactMroSpec : ChangeSpec := { name := "fnExactMro", fn := fun _ => fun
  | [d] => { results := [.lit (.bool true)], args := [d] }
  | _ => none }
def fnExactMroRow : OpenClaim := { program := "ytkclfbmgnhmkhaa", sum := "a0544abb0bad0f78e7159cb50564af5375f0ff6f453c38897a280227447c4bb8", func := "loop.example/g00009/laws.FnExactMro", spec := "fnExactMro", unfollowed := true, recurses := true, apart := false }
def FnExactMroSaid : Prop := fnExactMroRow.holds Try.pinned (OpenSpec.ofChange fnExactMroSpec)

/-- ITS FALSE NEIGHBOUR: 'it returns false'. Refute it at one input. -/
def fnExactMroWrong : ChangeSpec := { name := "fnExactMro", fn := fun _ => fun
  | [d] => { results := [.lit (.bool false)], args := [d] }
  | _ => none }
def FnExactMroWrongFalsely : Prop := fnExactMroRow.holds Try.pinned (OpenSpec.ofChange fnExactMroWrong)

/- THE SECOND FORM. 'bulk': how many values and letters a reading holds, each counted each time it is reached (what is shared counts as often as it is met; a slice's spare places count too). A statement '..UptoSaid' is the law's where the arguments, and the package variables that the reading takes, are together of bulk at most 1048576: NARROWER than '..Said'. Prove '..Said' where nothing that the law and all that it calls make is longer than what came in: it says more and counts as full. Else prove '..UptoSaid'. A law counts once. -/
mutual
def uptoBulk {H : Type} : DataW H → Nat
  | .lit (.string bytes) => bytes.length + 1
  | .lit _ => 1
  | .nil => 1
  | .ptr d => uptoBulk d + 1
  | .slice elems spare => uptoBulkAll elems + uptoBulkAll spare + 1
  | .agg parts => uptoBulkAll parts + 1
  | .iface _ d => uptoBulk d + 1
  | .map entries => uptoBulkEntries entries + 1
  | .held _ => 1
def uptoBulkAll {H : Type} : List (DataW H) → Nat
  | [] => 0
  | d :: r => uptoBulk d + uptoBulkAll r
def uptoBulkEntries {H : Type} : List (Lit × DataW H) → Nat
  | [] => 0
  | x :: r => uptoBulkEntry x + uptoBulkEntries r
def uptoBulkEntry {H : Type} : Lit × DataW H → Nat
  | (.string bytes, d) => bytes.length + uptoBulk d + 1
  | (_, d) => uptoBulk d + 1
 end
def uptoSmall : (H : Type) → List (DataW H) → Bool := fun _ ds => decide (uptoBulkAll ds ≤ 1048576)
def OpenSpec.upto (s : _root_.Go.ChangeSpec) : _root_.Go.OpenSpec := { _root_.Go.OpenSpec.ofChange s with cond := some uptoSmall }

/-- 'laws.FnExactClassesOk', WHERE WHAT IT READS IS OF BULK AT MOST 1048576: true; the input reads as it did. -/
def fnExactClassesOkUptoRow : OpenClaim := { program := "ytkclfbmgnhmkhaa", sum := "a0544abb0bad0f78e7159cb50564af5375f0ff6f453c38897a280227447c4bb8", func := "loop.example/g00009/laws.FnExactClassesOk", spec := "fnExactClassesOk", apart := false, narrowed := true }
def FnExactClassesOkUptoSaid : Prop := fnExactClassesOkUptoRow.holds Try.pinned (OpenSpec.upto fnExactClassesOkSpec)

/-- 'laws.FnLines', WHERE WHAT IT READS IS OF BULK AT MOST 1048576: true; the input reads as it did. -/
def fnLinesUptoRow : OpenClaim := { program := "ytkclfbmgnhmkhaa", sum := "a0544abb0bad0f78e7159cb50564af5375f0ff6f453c38897a280227447c4bb8", func := "loop.example/g00009/laws.FnLines", spec := "fnLines", unfollowed := true, recurses := true, apart := false, narrowed := true }
def FnLinesUptoSaid : Prop := fnLinesUptoRow.holds Try.pinned (OpenSpec.upto fnLinesSpec)

/-- 'laws.FnAttrs', WHERE WHAT IT READS IS OF BULK AT MOST 1048576: true; the input reads as it did. -/
def fnAttrsUptoRow : OpenClaim := { program := "ytkclfbmgnhmkhaa", sum := "a0544abb0bad0f78e7159cb50564af5375f0ff6f453c38897a280227447c4bb8", func := "loop.example/g00009/laws.FnAttrs", spec := "fnAttrs", unfollowed := true, recurses := true, apart := false, narrowed := true }
def FnAttrsUptoSaid : Prop := fnAttrsUptoRow.holds Try.pinned (OpenSpec.upto fnAttrsSpec)

/-- 'laws.FnExactAttrSet', WHERE WHAT IT READS IS OF BULK AT MOST 1048576: true; the input reads as it did. -/
def fnExactAttrSetUptoRow : OpenClaim := { program := "ytkclfbmgnhmkhaa", sum := "a0544abb0bad0f78e7159cb50564af5375f0ff6f453c38897a280227447c4bb8", func := "loop.example/g00009/laws.FnExactAttrSet", spec := "fnExactAttrSet", unfollowed := true, recurses := true, apart := false, narrowed := true }
def FnExactAttrSetUptoSaid : Prop := fnExactAttrSetUptoRow.holds Try.pinned (OpenSpec.upto fnExactAttrSetSpec)

/-- 'laws.FnExactAttrGet', WHERE WHAT IT READS IS OF BULK AT MOST 1048576: true; the input reads as it did. -/
def fnExactAttrGetUptoRow : OpenClaim := { program := "ytkclfbmgnhmkhaa", sum := "a0544abb0bad0f78e7159cb50564af5375f0ff6f453c38897a280227447c4bb8", func := "loop.example/g00009/laws.FnExactAttrGet", spec := "fnExactAttrGet", unfollowed := true, recurses := true, apart := false, narrowed := true }
def FnExactAttrGetUptoSaid : Prop := fnExactAttrGetUptoRow.holds Try.pinned (OpenSpec.upto fnExactAttrGetSpec)

/-- 'laws.FnExactMroFits', WHERE WHAT IT READS IS OF BULK AT MOST 1048576: true; the input reads as it did. -/
def fnExactMroFitsUptoRow : OpenClaim := { program := "ytkclfbmgnhmkhaa", sum := "a0544abb0bad0f78e7159cb50564af5375f0ff6f453c38897a280227447c4bb8", func := "loop.example/g00009/laws.FnExactMroFits", spec := "fnExactMroFits", unfollowed := true, recurses := true, apart := false, narrowed := true }
def FnExactMroFitsUptoSaid : Prop := fnExactMroFitsUptoRow.holds Try.pinned (OpenSpec.upto fnExactMroFitsSpec)

/-- 'laws.FnExactMro', WHERE WHAT IT READS IS OF BULK AT MOST 1048576: true; the input reads as it did. -/
def fnExactMroUptoRow : OpenClaim := { program := "ytkclfbmgnhmkhaa", sum := "a0544abb0bad0f78e7159cb50564af5375f0ff6f453c38897a280227447c4bb8", func := "loop.example/g00009/laws.FnExactMro", spec := "fnExactMro", unfollowed := true, recurses := true, apart := false, narrowed := true }
def FnExactMroUptoSaid : Prop := fnExactMroUptoRow.holds Try.pinned (OpenSpec.upto fnExactMroSpec)

end Rows
end Go.Proofs.Ytkclfbmgnhmkhaa
