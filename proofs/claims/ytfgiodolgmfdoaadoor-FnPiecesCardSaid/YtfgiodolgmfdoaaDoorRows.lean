/-
  NARROWER THAN 'FOR EVERY INPUT', by the rows' own cells (each row's printed sentence says how): FnExactTextWords: laid · FnExactTextJoin: laid · FnExactTextTimes: laid · FnExactTextFind: laid · FnExactTextCut: laid · FnSlices: laid · FnExactTextSplit: laid · FnExactTextReplace: laid · FnExactTextRepr: laid · FnPieces: laid · FnExactStrValue: laid · FnExactFParts: laid.
  DERIVED. THE GIVEN ROWS OF THIS SEAT. 12 by the template 'for every input the law returns true; each argument reads behind the call as it read before'; 0 by the template 'total and deterministic' (their statements: YtfgiodolgmfdoaaDoorTotals.lean).
  GIVEN WITH THE SEED: the statements are not yours to turn. If you find one false, say at which input.
  Laid BY PROGRAM, IN A SANDBOX (cutbox-rows.mjs): the forced cells as the released guide's own fill.sh prints them over the translation 2ae93a813328d0b6… (all of the seat's roots in one cut). By AI agents, Wed Nov 11 2026. No macro, syntax, notation, axiom, sorry.
-/
import Derived.Test.YtfgiodolgmfdoaaDoorChecked
import GoSem.PinnedTables
import GoSem.Claim
import GoSem.ClaimJoined
import GoSem.ClaimMapViews
import Derived.JoinedTies
import Derived.KernelRfl
namespace Go.Proofs.YtfgiodolgmfdoaaDoor
/- THE CELL 'sum', in the pinned program and in every row, IS THE sha256 OF THE DUMP (.gsa) THAT YtfgiodolgmfdoaaDoorProg.lean LOADS. Nothing in Lean hashes anything: it is a label: what it is worth is what the hold of that sum in a sandbox is worth. -/
noncomputable def Tryd.pinned : Pinned := { name := "ytfgiodolgmfdoaadoor", sum := "2ae93a813328d0b6c40330f9398a754286900e9ddac484234226634843610249", checked := Tryd.checked }
namespace Rows
def none {H : Type} : Left H := { results := [], args := [] }

/- WHAT THE LISTED PACKAGE-LEVEL VARIABLES READ AS WHEN THE CALL BEGINS. Each datum BY PROGRAM (the guide's laid-datum.mjs) off the statement by which the dump's own 'gosem.cut.vars' lays the variable. In a bare row this is a premise. The card (YtfgiodolgmfdoaaDoorCards.lean) ties it to the program's text. -/
def laid_unicode_utf8_acceptRanges {H : Type} : DataW H := .agg [.agg [.lit (.int .u8 128), .lit (.int .u8 191)], .agg [.lit (.int .u8 160), .lit (.int .u8 191)], .agg [.lit (.int .u8 128), .lit (.int .u8 159)], .agg [.lit (.int .u8 144), .lit (.int .u8 191)], .agg [.lit (.int .u8 128), .lit (.int .u8 143)], .agg [.lit (.int .u8 0), .lit (.int .u8 0)], .agg [.lit (.int .u8 0), .lit (.int .u8 0)], .agg [.lit (.int .u8 0), .lit (.int .u8 0)], .agg [.lit (.int .u8 0), .lit (.int .u8 0)], .agg [.lit (.int .u8 0), .lit (.int .u8 0)], .agg [.lit (.int .u8 0), .lit (.int .u8 0)], .agg [.lit (.int .u8 0), .lit (.int .u8 0)], .agg [.lit (.int .u8 0), .lit (.int .u8 0)], .agg [.lit (.int .u8 0), .lit (.int .u8 0)], .agg [.lit (.int .u8 0), .lit (.int .u8 0)], .agg [.lit (.int .u8 0), .lit (.int .u8 0)]]
/-- One of Go's own tables, pinned by name: the form's constant. -/
def laid_unicode_utf8_first : DataW Unit := Go.Pinned.utf8First
def laid_math_bits_deBruijn32tab {H : Type} : DataW H := .agg [.lit (.int .u8 0), .lit (.int .u8 1), .lit (.int .u8 28), .lit (.int .u8 2), .lit (.int .u8 29), .lit (.int .u8 14), .lit (.int .u8 24), .lit (.int .u8 3), .lit (.int .u8 30), .lit (.int .u8 22), .lit (.int .u8 20), .lit (.int .u8 15), .lit (.int .u8 25), .lit (.int .u8 17), .lit (.int .u8 4), .lit (.int .u8 8), .lit (.int .u8 31), .lit (.int .u8 27), .lit (.int .u8 13), .lit (.int .u8 23), .lit (.int .u8 21), .lit (.int .u8 19), .lit (.int .u8 16), .lit (.int .u8 7), .lit (.int .u8 26), .lit (.int .u8 12), .lit (.int .u8 18), .lit (.int .u8 6), .lit (.int .u8 11), .lit (.int .u8 5), .lit (.int .u8 10), .lit (.int .u8 9)]
def laid_math_bits_deBruijn64tab {H : Type} : DataW H := .agg [.lit (.int .u8 0), .lit (.int .u8 1), .lit (.int .u8 56), .lit (.int .u8 2), .lit (.int .u8 57), .lit (.int .u8 49), .lit (.int .u8 28), .lit (.int .u8 3), .lit (.int .u8 61), .lit (.int .u8 58), .lit (.int .u8 42), .lit (.int .u8 50), .lit (.int .u8 38), .lit (.int .u8 29), .lit (.int .u8 17), .lit (.int .u8 4), .lit (.int .u8 62), .lit (.int .u8 47), .lit (.int .u8 59), .lit (.int .u8 36), .lit (.int .u8 45), .lit (.int .u8 43), .lit (.int .u8 51), .lit (.int .u8 22), .lit (.int .u8 53), .lit (.int .u8 39), .lit (.int .u8 33), .lit (.int .u8 30), .lit (.int .u8 24), .lit (.int .u8 18), .lit (.int .u8 12), .lit (.int .u8 5), .lit (.int .u8 63), .lit (.int .u8 55), .lit (.int .u8 48), .lit (.int .u8 27), .lit (.int .u8 60), .lit (.int .u8 41), .lit (.int .u8 37), .lit (.int .u8 16), .lit (.int .u8 46), .lit (.int .u8 35), .lit (.int .u8 44), .lit (.int .u8 21), .lit (.int .u8 52), .lit (.int .u8 32), .lit (.int .u8 23), .lit (.int .u8 11), .lit (.int .u8 54), .lit (.int .u8 26), .lit (.int .u8 40), .lit (.int .u8 15), .lit (.int .u8 34), .lit (.int .u8 20), .lit (.int .u8 31), .lit (.int .u8 10), .lit (.int .u8 25), .lit (.int .u8 14), .lit (.int .u8 19), .lit (.int .u8 9), .lit (.int .u8 13), .lit (.int .u8 8), .lit (.int .u8 7), .lit (.int .u8 6)]
def laid_internal_strconv_uint64pow10 {H : Type} : DataW H := .agg [.lit (.int .u64 1), .lit (.int .u64 10), .lit (.int .u64 100), .lit (.int .u64 1000), .lit (.int .u64 10000), .lit (.int .u64 100000), .lit (.int .u64 1000000), .lit (.int .u64 10000000), .lit (.int .u64 100000000), .lit (.int .u64 1000000000), .lit (.int .u64 10000000000), .lit (.int .u64 100000000000), .lit (.int .u64 1000000000000), .lit (.int .u64 10000000000000), .lit (.int .u64 100000000000000), .lit (.int .u64 1000000000000000), .lit (.int .u64 10000000000000000), .lit (.int .u64 100000000000000000), .lit (.int .u64 1000000000000000000), .lit (.int .u64 10000000000000000000)]
def laid_strconv_ErrRange {H : Type} : DataW H := .iface "*errors.errorString" (.ptr (.agg [.lit (.string [118, 97, 108, 117, 101, 32, 111, 117, 116, 32, 111, 102, 32, 114, 97, 110, 103, 101])]))
def laid_strconv_ErrSyntax {H : Type} : DataW H := .iface "*errors.errorString" (.ptr (.agg [.lit (.string [105, 110, 118, 97, 108, 105, 100, 32, 115, 121, 110, 116, 97, 120])]))

/-- 'laws.FnExactTextWords': WHATEVER THE INPUT: true; the input reads as it did. -/
def fnExactTextWordsSpec : ChangeSpec := { name := "fnExactTextWords", fn := fun _ => fun
  | [d] => { results := [.lit (.bool true)], args := [d] }
  | _ => none }
def fnExactTextWordsRow : OpenClaim := { program := "ytfgiodolgmfdoaadoor", sum := "2ae93a813328d0b6c40330f9398a754286900e9ddac484234226634843610249", func := "loop.example/g00009/laws.FnExactTextWords", spec := "fnExactTextWords", unfollowed := true, recurses := true, named := ["unicode/utf8.first", "unicode/utf8.acceptRanges"], apart := false, laid := [("unicode/utf8.acceptRanges", laid_unicode_utf8_acceptRanges), ("unicode/utf8.first", laid_unicode_utf8_first)] }
def FnExactTextWordsSaid : Prop := fnExactTextWordsRow.holds Tryd.pinned (OpenSpec.ofChange fnExactTextWordsSpec)

/-- ITS FALSE NEIGHBOUR: 'it returns false'. Refute it at one input. -/
def fnExactTextWordsWrong : ChangeSpec := { name := "fnExactTextWords", fn := fun _ => fun
  | [d] => { results := [.lit (.bool false)], args := [d] }
  | _ => none }
def FnExactTextWordsWrongFalsely : Prop := fnExactTextWordsRow.holds Tryd.pinned (OpenSpec.ofChange fnExactTextWordsWrong)

/-- 'laws.FnExactTextJoin': WHATEVER THE INPUT: true; the input reads as it did. -/
def fnExactTextJoinSpec : ChangeSpec := { name := "fnExactTextJoin", fn := fun _ => fun
  | [d1, d2] => { results := [.lit (.bool true)], args := [d1, d2] }
  | _ => none }
def fnExactTextJoinRow : OpenClaim := { program := "ytfgiodolgmfdoaadoor", sum := "2ae93a813328d0b6c40330f9398a754286900e9ddac484234226634843610249", func := "loop.example/g00009/laws.FnExactTextJoin", spec := "fnExactTextJoin", inPlace := ["internal/abi.NoEscape", "internal/bytealg.MakeNoZero"], named := ["unicode/utf8.first", "unicode/utf8.acceptRanges"], apart := false, laid := [("unicode/utf8.acceptRanges", laid_unicode_utf8_acceptRanges), ("unicode/utf8.first", laid_unicode_utf8_first)] }
def FnExactTextJoinSaid : Prop := fnExactTextJoinRow.holds Tryd.pinned (OpenSpec.ofChange fnExactTextJoinSpec)

/-- ITS FALSE NEIGHBOUR: 'it returns false'. Refute it at one input. -/
def fnExactTextJoinWrong : ChangeSpec := { name := "fnExactTextJoin", fn := fun _ => fun
  | [d1, d2] => { results := [.lit (.bool false)], args := [d1, d2] }
  | _ => none }
def FnExactTextJoinWrongFalsely : Prop := fnExactTextJoinRow.holds Tryd.pinned (OpenSpec.ofChange fnExactTextJoinWrong)

/-- 'laws.FnExactTextTimes': WHATEVER THE INPUT: true; the input reads as it did. -/
def fnExactTextTimesSpec : ChangeSpec := { name := "fnExactTextTimes", fn := fun _ => fun
  | [d1, d2] => { results := [.lit (.bool true)], args := [d1, d2] }
  | _ => none }
def fnExactTextTimesRow : OpenClaim := { program := "ytfgiodolgmfdoaadoor", sum := "2ae93a813328d0b6c40330f9398a754286900e9ddac484234226634843610249", func := "loop.example/g00009/laws.FnExactTextTimes", spec := "fnExactTextTimes", inPlace := ["internal/abi.NoEscape", "internal/bytealg.MakeNoZero"], named := ["unicode/utf8.first", "unicode/utf8.acceptRanges"], apart := false, laid := [("unicode/utf8.acceptRanges", laid_unicode_utf8_acceptRanges), ("unicode/utf8.first", laid_unicode_utf8_first)] }
def FnExactTextTimesSaid : Prop := fnExactTextTimesRow.holds Tryd.pinned (OpenSpec.ofChange fnExactTextTimesSpec)

/-- ITS FALSE NEIGHBOUR: 'it returns false'. Refute it at one input. -/
def fnExactTextTimesWrong : ChangeSpec := { name := "fnExactTextTimes", fn := fun _ => fun
  | [d1, d2] => { results := [.lit (.bool false)], args := [d1, d2] }
  | _ => none }
def FnExactTextTimesWrongFalsely : Prop := fnExactTextTimesRow.holds Tryd.pinned (OpenSpec.ofChange fnExactTextTimesWrong)

/-- 'laws.FnExactTextFind': WHATEVER THE INPUT: true; the input reads as it did. -/
def fnExactTextFindSpec : ChangeSpec := { name := "fnExactTextFind", fn := fun _ => fun
  | [d1, d2, d3] => { results := [.lit (.bool true)], args := [d1, d2, d3] }
  | _ => none }
def fnExactTextFindRow : OpenClaim := { program := "ytfgiodolgmfdoaadoor", sum := "2ae93a813328d0b6c40330f9398a754286900e9ddac484234226634843610249", func := "loop.example/g00009/laws.FnExactTextFind", spec := "fnExactTextFind", inPlace := ["internal/bytealg.IndexByteString", "internal/bytealg.IndexString"], named := ["unicode/utf8.first", "unicode/utf8.acceptRanges", "internal/bytealg.MaxLen"], apart := false, laid := [("unicode/utf8.acceptRanges", laid_unicode_utf8_acceptRanges), ("unicode/utf8.first", laid_unicode_utf8_first)] }
def FnExactTextFindSaid : Prop := fnExactTextFindRow.holds Tryd.pinned (OpenSpec.ofChange fnExactTextFindSpec)

/-- ITS FALSE NEIGHBOUR: 'it returns false'. Refute it at one input. -/
def fnExactTextFindWrong : ChangeSpec := { name := "fnExactTextFind", fn := fun _ => fun
  | [d1, d2, d3] => { results := [.lit (.bool false)], args := [d1, d2, d3] }
  | _ => none }
def FnExactTextFindWrongFalsely : Prop := fnExactTextFindRow.holds Tryd.pinned (OpenSpec.ofChange fnExactTextFindWrong)

/-- 'laws.FnExactTextCut': WHATEVER THE INPUT: true; the input reads as it did. -/
def fnExactTextCutSpec : ChangeSpec := { name := "fnExactTextCut", fn := fun _ => fun
  | [d1, d2, d3, d4] => { results := [.lit (.bool true)], args := [d1, d2, d3, d4] }
  | _ => none }
def fnExactTextCutRow : OpenClaim := { program := "ytfgiodolgmfdoaadoor", sum := "2ae93a813328d0b6c40330f9398a754286900e9ddac484234226634843610249", func := "loop.example/g00009/laws.FnExactTextCut", spec := "fnExactTextCut", inPlace := ["internal/abi.NoEscape"], unfollowed := true, recurses := true, named := ["unicode/utf8.first", "unicode/utf8.acceptRanges"], apart := false, laid := [("unicode/utf8.acceptRanges", laid_unicode_utf8_acceptRanges), ("unicode/utf8.first", laid_unicode_utf8_first)] }
def FnExactTextCutSaid : Prop := fnExactTextCutRow.holds Tryd.pinned (OpenSpec.ofChange fnExactTextCutSpec)

/-- ITS FALSE NEIGHBOUR: 'it returns false'. Refute it at one input. -/
def fnExactTextCutWrong : ChangeSpec := { name := "fnExactTextCut", fn := fun _ => fun
  | [d1, d2, d3, d4] => { results := [.lit (.bool false)], args := [d1, d2, d3, d4] }
  | _ => none }
def FnExactTextCutWrongFalsely : Prop := fnExactTextCutRow.holds Tryd.pinned (OpenSpec.ofChange fnExactTextCutWrong)

/-- 'laws.FnSlices': WHATEVER THE INPUT: true; the input reads as it did. -/
def fnSlicesSpec : ChangeSpec := { name := "fnSlices", fn := fun _ => fun
  | [d1, d2] => { results := [.lit (.bool true)], args := [d1, d2] }
  | _ => none }
def fnSlicesRow : OpenClaim := { program := "ytfgiodolgmfdoaadoor", sum := "2ae93a813328d0b6c40330f9398a754286900e9ddac484234226634843610249", func := "loop.example/g00009/laws.FnSlices", spec := "fnSlices", inPlace := ["internal/abi.NoEscape"], unfollowed := true, recurses := true, named := ["unicode/utf8.first", "unicode/utf8.acceptRanges"], apart := false, laid := [("unicode/utf8.acceptRanges", laid_unicode_utf8_acceptRanges), ("unicode/utf8.first", laid_unicode_utf8_first)] }
def FnSlicesSaid : Prop := fnSlicesRow.holds Tryd.pinned (OpenSpec.ofChange fnSlicesSpec)

/-- ITS FALSE NEIGHBOUR: 'it returns false'. Refute it at one input. -/
def fnSlicesWrong : ChangeSpec := { name := "fnSlices", fn := fun _ => fun
  | [d1, d2] => { results := [.lit (.bool false)], args := [d1, d2] }
  | _ => none }
def FnSlicesWrongFalsely : Prop := fnSlicesRow.holds Tryd.pinned (OpenSpec.ofChange fnSlicesWrong)

/-- 'laws.FnExactTextSplit': WHATEVER THE INPUT: true; the input reads as it did. -/
def fnExactTextSplitSpec : ChangeSpec := { name := "fnExactTextSplit", fn := fun _ => fun
  | [d1, d2] => { results := [.lit (.bool true)], args := [d1, d2] }
  | _ => none }
def fnExactTextSplitRow : OpenClaim := { program := "ytfgiodolgmfdoaadoor", sum := "2ae93a813328d0b6c40330f9398a754286900e9ddac484234226634843610249", func := "loop.example/g00009/laws.FnExactTextSplit", spec := "fnExactTextSplit", inPlace := ["internal/bytealg.CountString", "internal/bytealg.IndexByteString", "internal/bytealg.IndexString"], named := ["unicode/utf8.first", "unicode/utf8.acceptRanges", "internal/bytealg.MaxLen"], apart := false, laid := [("unicode/utf8.acceptRanges", laid_unicode_utf8_acceptRanges), ("unicode/utf8.first", laid_unicode_utf8_first)] }
def FnExactTextSplitSaid : Prop := fnExactTextSplitRow.holds Tryd.pinned (OpenSpec.ofChange fnExactTextSplitSpec)

/-- ITS FALSE NEIGHBOUR: 'it returns false'. Refute it at one input. -/
def fnExactTextSplitWrong : ChangeSpec := { name := "fnExactTextSplit", fn := fun _ => fun
  | [d1, d2] => { results := [.lit (.bool false)], args := [d1, d2] }
  | _ => none }
def FnExactTextSplitWrongFalsely : Prop := fnExactTextSplitRow.holds Tryd.pinned (OpenSpec.ofChange fnExactTextSplitWrong)

/-- 'laws.FnExactTextReplace': WHATEVER THE INPUT: true; the input reads as it did. -/
def fnExactTextReplaceSpec : ChangeSpec := { name := "fnExactTextReplace", fn := fun _ => fun
  | [d1, d2, d3] => { results := [.lit (.bool true)], args := [d1, d2, d3] }
  | _ => none }
def fnExactTextReplaceRow : OpenClaim := { program := "ytfgiodolgmfdoaadoor", sum := "2ae93a813328d0b6c40330f9398a754286900e9ddac484234226634843610249", func := "loop.example/g00009/laws.FnExactTextReplace", spec := "fnExactTextReplace", inPlace := ["internal/bytealg.CountString", "internal/bytealg.IndexByteString", "internal/bytealg.IndexString", "internal/abi.NoEscape", "internal/bytealg.MakeNoZero"], named := ["unicode/utf8.first", "unicode/utf8.acceptRanges", "internal/bytealg.MaxLen"], apart := false, laid := [("unicode/utf8.acceptRanges", laid_unicode_utf8_acceptRanges), ("unicode/utf8.first", laid_unicode_utf8_first)] }
def FnExactTextReplaceSaid : Prop := fnExactTextReplaceRow.holds Tryd.pinned (OpenSpec.ofChange fnExactTextReplaceSpec)

/-- ITS FALSE NEIGHBOUR: 'it returns false'. Refute it at one input. -/
def fnExactTextReplaceWrong : ChangeSpec := { name := "fnExactTextReplace", fn := fun _ => fun
  | [d1, d2, d3] => { results := [.lit (.bool false)], args := [d1, d2, d3] }
  | _ => none }
def FnExactTextReplaceWrongFalsely : Prop := fnExactTextReplaceRow.holds Tryd.pinned (OpenSpec.ofChange fnExactTextReplaceWrong)

/-- 'laws.FnExactTextRepr': WHATEVER THE INPUT: true; the input reads as it did. -/
def fnExactTextReprSpec : ChangeSpec := { name := "fnExactTextRepr", fn := fun _ => fun
  | [d] => { results := [.lit (.bool true)], args := [d] }
  | _ => none }
def fnExactTextReprRow : OpenClaim := { program := "ytfgiodolgmfdoaadoor", sum := "2ae93a813328d0b6c40330f9398a754286900e9ddac484234226634843610249", func := "loop.example/g00009/laws.FnExactTextRepr", spec := "fnExactTextRepr", inPlace := ["internal/bytealg.IndexByteString", "internal/bytealg.IndexString", "internal/abi.NoEscape"], named := ["unicode/utf8.first", "unicode/utf8.acceptRanges", "internal/strconv.uint64pow10", "math/bits.deBruijn32tab", "math/bits.deBruijn64tab", "internal/bytealg.MaxLen"], apart := false, laid := [("math/bits.deBruijn32tab", laid_math_bits_deBruijn32tab), ("math/bits.deBruijn64tab", laid_math_bits_deBruijn64tab), ("internal/strconv.uint64pow10", laid_internal_strconv_uint64pow10), ("unicode/utf8.acceptRanges", laid_unicode_utf8_acceptRanges), ("unicode/utf8.first", laid_unicode_utf8_first)] }
def FnExactTextReprSaid : Prop := fnExactTextReprRow.holds Tryd.pinned (OpenSpec.ofChange fnExactTextReprSpec)

/-- ITS FALSE NEIGHBOUR: 'it returns false'. Refute it at one input. -/
def fnExactTextReprWrong : ChangeSpec := { name := "fnExactTextRepr", fn := fun _ => fun
  | [d] => { results := [.lit (.bool false)], args := [d] }
  | _ => none }
def FnExactTextReprWrongFalsely : Prop := fnExactTextReprRow.holds Tryd.pinned (OpenSpec.ofChange fnExactTextReprWrong)

/-- 'laws.FnPieces': WHATEVER THE INPUT: true; the input reads as it did. -/
def fnPiecesSpec : ChangeSpec := { name := "fnPieces", fn := fun _ => fun
  | [d1, d2] => { results := [.lit (.bool true)], args := [d1, d2] }
  | _ => none }
def fnPiecesRow : OpenClaim := { program := "ytfgiodolgmfdoaadoor", sum := "2ae93a813328d0b6c40330f9398a754286900e9ddac484234226634843610249", func := "loop.example/g00009/laws.FnPieces", spec := "fnPieces", inPlace := ["internal/bytealg.CountString", "internal/bytealg.IndexByteString", "internal/bytealg.IndexString", "internal/abi.NoEscape", "internal/bytealg.MakeNoZero"], named := ["unicode/utf8.first", "unicode/utf8.acceptRanges", "internal/bytealg.MaxLen"], apart := false, laid := [("unicode/utf8.acceptRanges", laid_unicode_utf8_acceptRanges), ("unicode/utf8.first", laid_unicode_utf8_first)] }
def FnPiecesSaid : Prop := fnPiecesRow.holds Tryd.pinned (OpenSpec.ofChange fnPiecesSpec)

/-- ITS FALSE NEIGHBOUR: 'it returns false'. Refute it at one input. -/
def fnPiecesWrong : ChangeSpec := { name := "fnPieces", fn := fun _ => fun
  | [d1, d2] => { results := [.lit (.bool false)], args := [d1, d2] }
  | _ => none }
def FnPiecesWrongFalsely : Prop := fnPiecesRow.holds Tryd.pinned (OpenSpec.ofChange fnPiecesWrong)

/-- 'laws.FnExactStrValue': WHATEVER THE INPUT: true; the input reads as it did. -/
def fnExactStrValueSpec : ChangeSpec := { name := "fnExactStrValue", fn := fun _ => fun
  | [d] => { results := [.lit (.bool true)], args := [d] }
  | _ => none }
def fnExactStrValueRow : OpenClaim := { program := "ytfgiodolgmfdoaadoor", sum := "2ae93a813328d0b6c40330f9398a754286900e9ddac484234226634843610249", func := "loop.example/g00009/laws.FnExactStrValue", spec := "fnExactStrValue", inPlace := ["internal/abi.NoEscape", "internal/bytealg.IndexByteString", "internal/bytealg.IndexString"], named := ["unicode/utf8.first", "unicode/utf8.acceptRanges", "strconv.ErrSyntax", "strconv.ErrRange", "internal/strconv.uint64pow10", "math/bits.deBruijn32tab", "math/bits.deBruijn64tab", "internal/bytealg.MaxLen"], apart := false, laid := [("math/bits.deBruijn32tab", laid_math_bits_deBruijn32tab), ("math/bits.deBruijn64tab", laid_math_bits_deBruijn64tab), ("internal/strconv.uint64pow10", laid_internal_strconv_uint64pow10), ("unicode/utf8.acceptRanges", laid_unicode_utf8_acceptRanges), ("strconv.ErrRange", laid_strconv_ErrRange), ("strconv.ErrSyntax", laid_strconv_ErrSyntax), ("unicode/utf8.first", laid_unicode_utf8_first)] }
def FnExactStrValueSaid : Prop := fnExactStrValueRow.holds Tryd.pinned (OpenSpec.ofChange fnExactStrValueSpec)

/-- ITS FALSE NEIGHBOUR: 'it returns false'. Refute it at one input. -/
def fnExactStrValueWrong : ChangeSpec := { name := "fnExactStrValue", fn := fun _ => fun
  | [d] => { results := [.lit (.bool false)], args := [d] }
  | _ => none }
def FnExactStrValueWrongFalsely : Prop := fnExactStrValueRow.holds Tryd.pinned (OpenSpec.ofChange fnExactStrValueWrong)

/-- 'laws.FnExactFParts': WHATEVER THE INPUT: true; the input reads as it did. -/
def fnExactFPartsSpec : ChangeSpec := { name := "fnExactFParts", fn := fun _ => fun
  | [d] => { results := [.lit (.bool true)], args := [d] }
  | _ => none }
def fnExactFPartsRow : OpenClaim := { program := "ytfgiodolgmfdoaadoor", sum := "2ae93a813328d0b6c40330f9398a754286900e9ddac484234226634843610249", func := "loop.example/g00009/laws.FnExactFParts", spec := "fnExactFParts", inPlace := ["internal/abi.NoEscape", "internal/bytealg.IndexByteString", "internal/bytealg.IndexString"], unfollowed := true, recurses := true, named := ["unicode/utf8.first", "unicode/utf8.acceptRanges", "strconv.ErrSyntax", "strconv.ErrRange", "internal/strconv.uint64pow10", "math/bits.deBruijn32tab", "math/bits.deBruijn64tab", "internal/bytealg.MaxLen"], apart := false, laid := [("math/bits.deBruijn32tab", laid_math_bits_deBruijn32tab), ("math/bits.deBruijn64tab", laid_math_bits_deBruijn64tab), ("internal/strconv.uint64pow10", laid_internal_strconv_uint64pow10), ("unicode/utf8.acceptRanges", laid_unicode_utf8_acceptRanges), ("strconv.ErrRange", laid_strconv_ErrRange), ("strconv.ErrSyntax", laid_strconv_ErrSyntax), ("unicode/utf8.first", laid_unicode_utf8_first)] }
def FnExactFPartsSaid : Prop := fnExactFPartsRow.holds Tryd.pinned (OpenSpec.ofChange fnExactFPartsSpec)

/-- ITS FALSE NEIGHBOUR: 'it returns false'. Refute it at one input. -/
def fnExactFPartsWrong : ChangeSpec := { name := "fnExactFParts", fn := fun _ => fun
  | [d] => { results := [.lit (.bool false)], args := [d] }
  | _ => none }
def FnExactFPartsWrongFalsely : Prop := fnExactFPartsRow.holds Tryd.pinned (OpenSpec.ofChange fnExactFPartsWrong)

/- THE SECOND FORM. 'bulk': how many values and letters a reading holds, each counted each time it is reached (what is shared counts as often as it is met; a slice's spare places count too). A statement '..UptoSaid' is the law's where the arguments, and the package variables that the reading takes, are together of bulk at most 1048576: NARROWER than '..Said'. Prove '..Said' where nothing that the law and all that it calls make is longer than what came in: it says more and counts as full. Else prove '..UptoSaid'. A law counts once. -/
mutual
def uptoBulk {H : Type} : DataW H → Nat
  | .lit (.string bytes) => bytes.length + 1
  | .lit _ => 1
  | .nil => 1
  | .ptr d => uptoBulk d + 1
  | .slice elems spare => uptoBulkAll elems + uptoBulkAll spare + 1
  | .agg parts => uptoBulkAll parts + 1
  | .iface _ d => uptoBulk d + 1
  | .map entries => uptoBulkEntries entries + 1
  | .held _ => 1
def uptoBulkAll {H : Type} : List (DataW H) → Nat
  | [] => 0
  | d :: r => uptoBulk d + uptoBulkAll r
def uptoBulkEntries {H : Type} : List (Lit × DataW H) → Nat
  | [] => 0
  | x :: r => uptoBulkEntry x + uptoBulkEntries r
def uptoBulkEntry {H : Type} : Lit × DataW H → Nat
  | (.string bytes, d) => bytes.length + uptoBulk d + 1
  | (_, d) => uptoBulk d + 1
 end
def uptoSmall : (H : Type) → List (DataW H) → Bool := fun _ ds => decide (uptoBulkAll ds ≤ 1048576)
def OpenSpec.upto (s : _root_.Go.ChangeSpec) : _root_.Go.OpenSpec := { _root_.Go.OpenSpec.ofChange s with cond := some uptoSmall }

/-- 'laws.FnExactTextWords', WHERE WHAT IT READS IS OF BULK AT MOST 1048576: true; the input reads as it did. -/
def fnExactTextWordsUptoRow : OpenClaim := { program := "ytfgiodolgmfdoaadoor", sum := "2ae93a813328d0b6c40330f9398a754286900e9ddac484234226634843610249", func := "loop.example/g00009/laws.FnExactTextWords", spec := "fnExactTextWords", unfollowed := true, recurses := true, named := ["unicode/utf8.first", "unicode/utf8.acceptRanges"], apart := false, laid := [("unicode/utf8.acceptRanges", laid_unicode_utf8_acceptRanges), ("unicode/utf8.first", laid_unicode_utf8_first)], narrowed := true }
def FnExactTextWordsUptoSaid : Prop := fnExactTextWordsUptoRow.holds Tryd.pinned (OpenSpec.upto fnExactTextWordsSpec)

/-- 'laws.FnExactTextJoin', WHERE WHAT IT READS IS OF BULK AT MOST 1048576: true; the input reads as it did. -/
def fnExactTextJoinUptoRow : OpenClaim := { program := "ytfgiodolgmfdoaadoor", sum := "2ae93a813328d0b6c40330f9398a754286900e9ddac484234226634843610249", func := "loop.example/g00009/laws.FnExactTextJoin", spec := "fnExactTextJoin", inPlace := ["internal/abi.NoEscape", "internal/bytealg.MakeNoZero"], named := ["unicode/utf8.first", "unicode/utf8.acceptRanges"], apart := false, laid := [("unicode/utf8.acceptRanges", laid_unicode_utf8_acceptRanges), ("unicode/utf8.first", laid_unicode_utf8_first)], narrowed := true }
def FnExactTextJoinUptoSaid : Prop := fnExactTextJoinUptoRow.holds Tryd.pinned (OpenSpec.upto fnExactTextJoinSpec)

/-- 'laws.FnExactTextTimes', WHERE WHAT IT READS IS OF BULK AT MOST 1048576: true; the input reads as it did. -/
def fnExactTextTimesUptoRow : OpenClaim := { program := "ytfgiodolgmfdoaadoor", sum := "2ae93a813328d0b6c40330f9398a754286900e9ddac484234226634843610249", func := "loop.example/g00009/laws.FnExactTextTimes", spec := "fnExactTextTimes", inPlace := ["internal/abi.NoEscape", "internal/bytealg.MakeNoZero"], named := ["unicode/utf8.first", "unicode/utf8.acceptRanges"], apart := false, laid := [("unicode/utf8.acceptRanges", laid_unicode_utf8_acceptRanges), ("unicode/utf8.first", laid_unicode_utf8_first)], narrowed := true }
def FnExactTextTimesUptoSaid : Prop := fnExactTextTimesUptoRow.holds Tryd.pinned (OpenSpec.upto fnExactTextTimesSpec)

/-- 'laws.FnExactTextFind', WHERE WHAT IT READS IS OF BULK AT MOST 1048576: true; the input reads as it did. -/
def fnExactTextFindUptoRow : OpenClaim := { program := "ytfgiodolgmfdoaadoor", sum := "2ae93a813328d0b6c40330f9398a754286900e9ddac484234226634843610249", func := "loop.example/g00009/laws.FnExactTextFind", spec := "fnExactTextFind", inPlace := ["internal/bytealg.IndexByteString", "internal/bytealg.IndexString"], named := ["unicode/utf8.first", "unicode/utf8.acceptRanges", "internal/bytealg.MaxLen"], apart := false, laid := [("unicode/utf8.acceptRanges", laid_unicode_utf8_acceptRanges), ("unicode/utf8.first", laid_unicode_utf8_first)], narrowed := true }
def FnExactTextFindUptoSaid : Prop := fnExactTextFindUptoRow.holds Tryd.pinned (OpenSpec.upto fnExactTextFindSpec)

/-- 'laws.FnExactTextCut', WHERE WHAT IT READS IS OF BULK AT MOST 1048576: true; the input reads as it did. -/
def fnExactTextCutUptoRow : OpenClaim := { program := "ytfgiodolgmfdoaadoor", sum := "2ae93a813328d0b6c40330f9398a754286900e9ddac484234226634843610249", func := "loop.example/g00009/laws.FnExactTextCut", spec := "fnExactTextCut", inPlace := ["internal/abi.NoEscape"], unfollowed := true, recurses := true, named := ["unicode/utf8.first", "unicode/utf8.acceptRanges"], apart := false, laid := [("unicode/utf8.acceptRanges", laid_unicode_utf8_acceptRanges), ("unicode/utf8.first", laid_unicode_utf8_first)], narrowed := true }
def FnExactTextCutUptoSaid : Prop := fnExactTextCutUptoRow.holds Tryd.pinned (OpenSpec.upto fnExactTextCutSpec)

/-- 'laws.FnSlices', WHERE WHAT IT READS IS OF BULK AT MOST 1048576: true; the input reads as it did. -/
def fnSlicesUptoRow : OpenClaim := { program := "ytfgiodolgmfdoaadoor", sum := "2ae93a813328d0b6c40330f9398a754286900e9ddac484234226634843610249", func := "loop.example/g00009/laws.FnSlices", spec := "fnSlices", inPlace := ["internal/abi.NoEscape"], unfollowed := true, recurses := true, named := ["unicode/utf8.first", "unicode/utf8.acceptRanges"], apart := false, laid := [("unicode/utf8.acceptRanges", laid_unicode_utf8_acceptRanges), ("unicode/utf8.first", laid_unicode_utf8_first)], narrowed := true }
def FnSlicesUptoSaid : Prop := fnSlicesUptoRow.holds Tryd.pinned (OpenSpec.upto fnSlicesSpec)

/-- 'laws.FnExactTextSplit', WHERE WHAT IT READS IS OF BULK AT MOST 1048576: true; the input reads as it did. -/
def fnExactTextSplitUptoRow : OpenClaim := { program := "ytfgiodolgmfdoaadoor", sum := "2ae93a813328d0b6c40330f9398a754286900e9ddac484234226634843610249", func := "loop.example/g00009/laws.FnExactTextSplit", spec := "fnExactTextSplit", inPlace := ["internal/bytealg.CountString", "internal/bytealg.IndexByteString", "internal/bytealg.IndexString"], named := ["unicode/utf8.first", "unicode/utf8.acceptRanges", "internal/bytealg.MaxLen"], apart := false, laid := [("unicode/utf8.acceptRanges", laid_unicode_utf8_acceptRanges), ("unicode/utf8.first", laid_unicode_utf8_first)], narrowed := true }
def FnExactTextSplitUptoSaid : Prop := fnExactTextSplitUptoRow.holds Tryd.pinned (OpenSpec.upto fnExactTextSplitSpec)

/-- 'laws.FnExactTextReplace', WHERE WHAT IT READS IS OF BULK AT MOST 1048576: true; the input reads as it did. -/
def fnExactTextReplaceUptoRow : OpenClaim := { program := "ytfgiodolgmfdoaadoor", sum := "2ae93a813328d0b6c40330f9398a754286900e9ddac484234226634843610249", func := "loop.example/g00009/laws.FnExactTextReplace", spec := "fnExactTextReplace", inPlace := ["internal/bytealg.CountString", "internal/bytealg.IndexByteString", "internal/bytealg.IndexString", "internal/abi.NoEscape", "internal/bytealg.MakeNoZero"], named := ["unicode/utf8.first", "unicode/utf8.acceptRanges", "internal/bytealg.MaxLen"], apart := false, laid := [("unicode/utf8.acceptRanges", laid_unicode_utf8_acceptRanges), ("unicode/utf8.first", laid_unicode_utf8_first)], narrowed := true }
def FnExactTextReplaceUptoSaid : Prop := fnExactTextReplaceUptoRow.holds Tryd.pinned (OpenSpec.upto fnExactTextReplaceSpec)

/-- 'laws.FnExactTextRepr', WHERE WHAT IT READS IS OF BULK AT MOST 1048576: true; the input reads as it did. -/
def fnExactTextReprUptoRow : OpenClaim := { program := "ytfgiodolgmfdoaadoor", sum := "2ae93a813328d0b6c40330f9398a754286900e9ddac484234226634843610249", func := "loop.example/g00009/laws.FnExactTextRepr", spec := "fnExactTextRepr", inPlace := ["internal/bytealg.IndexByteString", "internal/bytealg.IndexString", "internal/abi.NoEscape"], named := ["unicode/utf8.first", "unicode/utf8.acceptRanges", "internal/strconv.uint64pow10", "math/bits.deBruijn32tab", "math/bits.deBruijn64tab", "internal/bytealg.MaxLen"], apart := false, laid := [("math/bits.deBruijn32tab", laid_math_bits_deBruijn32tab), ("math/bits.deBruijn64tab", laid_math_bits_deBruijn64tab), ("internal/strconv.uint64pow10", laid_internal_strconv_uint64pow10), ("unicode/utf8.acceptRanges", laid_unicode_utf8_acceptRanges), ("unicode/utf8.first", laid_unicode_utf8_first)], narrowed := true }
def FnExactTextReprUptoSaid : Prop := fnExactTextReprUptoRow.holds Tryd.pinned (OpenSpec.upto fnExactTextReprSpec)

/-- 'laws.FnPieces', WHERE WHAT IT READS IS OF BULK AT MOST 1048576: true; the input reads as it did. -/
def fnPiecesUptoRow : OpenClaim := { program := "ytfgiodolgmfdoaadoor", sum := "2ae93a813328d0b6c40330f9398a754286900e9ddac484234226634843610249", func := "loop.example/g00009/laws.FnPieces", spec := "fnPieces", inPlace := ["internal/bytealg.CountString", "internal/bytealg.IndexByteString", "internal/bytealg.IndexString", "internal/abi.NoEscape", "internal/bytealg.MakeNoZero"], named := ["unicode/utf8.first", "unicode/utf8.acceptRanges", "internal/bytealg.MaxLen"], apart := false, laid := [("unicode/utf8.acceptRanges", laid_unicode_utf8_acceptRanges), ("unicode/utf8.first", laid_unicode_utf8_first)], narrowed := true }
def FnPiecesUptoSaid : Prop := fnPiecesUptoRow.holds Tryd.pinned (OpenSpec.upto fnPiecesSpec)

/-- 'laws.FnExactStrValue', WHERE WHAT IT READS IS OF BULK AT MOST 1048576: true; the input reads as it did. -/
def fnExactStrValueUptoRow : OpenClaim := { program := "ytfgiodolgmfdoaadoor", sum := "2ae93a813328d0b6c40330f9398a754286900e9ddac484234226634843610249", func := "loop.example/g00009/laws.FnExactStrValue", spec := "fnExactStrValue", inPlace := ["internal/abi.NoEscape", "internal/bytealg.IndexByteString", "internal/bytealg.IndexString"], named := ["unicode/utf8.first", "unicode/utf8.acceptRanges", "strconv.ErrSyntax", "strconv.ErrRange", "internal/strconv.uint64pow10", "math/bits.deBruijn32tab", "math/bits.deBruijn64tab", "internal/bytealg.MaxLen"], apart := false, laid := [("math/bits.deBruijn32tab", laid_math_bits_deBruijn32tab), ("math/bits.deBruijn64tab", laid_math_bits_deBruijn64tab), ("internal/strconv.uint64pow10", laid_internal_strconv_uint64pow10), ("unicode/utf8.acceptRanges", laid_unicode_utf8_acceptRanges), ("strconv.ErrRange", laid_strconv_ErrRange), ("strconv.ErrSyntax", laid_strconv_ErrSyntax), ("unicode/utf8.first", laid_unicode_utf8_first)], narrowed := true }
def FnExactStrValueUptoSaid : Prop := fnExactStrValueUptoRow.holds Tryd.pinned (OpenSpec.upto fnExactStrValueSpec)

/-- 'laws.FnExactFParts', WHERE WHAT IT READS IS OF BULK AT MOST 1048576: true; the input reads as it did. -/
def fnExactFPartsUptoRow : OpenClaim := { program := "ytfgiodolgmfdoaadoor", sum := "2ae93a813328d0b6c40330f9398a754286900e9ddac484234226634843610249", func := "loop.example/g00009/laws.FnExactFParts", spec := "fnExactFParts", inPlace := ["internal/abi.NoEscape", "internal/bytealg.IndexByteString", "internal/bytealg.IndexString"], unfollowed := true, recurses := true, named := ["unicode/utf8.first", "unicode/utf8.acceptRanges", "strconv.ErrSyntax", "strconv.ErrRange", "internal/strconv.uint64pow10", "math/bits.deBruijn32tab", "math/bits.deBruijn64tab", "internal/bytealg.MaxLen"], apart := false, laid := [("math/bits.deBruijn32tab", laid_math_bits_deBruijn32tab), ("math/bits.deBruijn64tab", laid_math_bits_deBruijn64tab), ("internal/strconv.uint64pow10", laid_internal_strconv_uint64pow10), ("unicode/utf8.acceptRanges", laid_unicode_utf8_acceptRanges), ("strconv.ErrRange", laid_strconv_ErrRange), ("strconv.ErrSyntax", laid_strconv_ErrSyntax), ("unicode/utf8.first", laid_unicode_utf8_first)], narrowed := true }
def FnExactFPartsUptoSaid : Prop := fnExactFPartsUptoRow.holds Tryd.pinned (OpenSpec.upto fnExactFPartsSpec)

end Rows
end Go.Proofs.YtfgiodolgmfdoaaDoor
