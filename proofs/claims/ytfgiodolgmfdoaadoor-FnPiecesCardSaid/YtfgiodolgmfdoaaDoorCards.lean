/-
  DERIVED. GIVEN WITH THE SEED: THE CARDS: each row of YtfgiodolgmfdoaaDoorRows.lean that lists a variable, with what it lists TIED to the program's text (the seventh form; the later family's looks); each row that meets fmt, with fmt's text TOLD by the authors' own Lean function (tested against real Go, not proved from fmt's source: count such statements apart). THE CARD IS WHAT COUNTS. Prove the row's statement (the work); the ties are given (YtfgiodolgmfdoaaDoorTie.lean); close each card by the builder's one call (the guide's Derived/Test/ToyasCard.lean, 'card_holds'). Laid BY PROGRAM, IN A SANDBOX (cutbox-door.mjs). By AI agents, Wed Nov 11 2026. No macro, syntax, notation, axiom, sorry.
-/
import Derived.Test.YtfgiodolgmfdoaaDoorRows
import GoSem.ClaimSeven
namespace Go.Proofs.YtfgiodolgmfdoaaDoor
namespace Rows

/-- THE TIED CARD OF 'laws.FnExactTextWords'. -/
def fnExactTextWordsCard : Claim7 := { stood := { row := fnExactTextWordsRow, standIns := [], harness := (true, "a63671ab05bdc6564417ab67bce4739a4a34e2521914c10088a4dc651eb84db7"), looks := true }, kinds := [], alts := [], laidByText := true, laidKinds := [.data, .pinned], laidTests := true, laidLooks := .later }
def FnExactTextWordsCardSaid : Prop := Claim7.holds Tryd.pinned (.plain (OpenSpec.ofChange fnExactTextWordsSpec)) fnExactTextWordsCard

/-- THE TIED CARD OF 'laws.FnExactTextJoin'. -/
def fnExactTextJoinCard : Claim7 := { stood := { row := fnExactTextJoinRow, standIns := [], harness := (true, "a63671ab05bdc6564417ab67bce4739a4a34e2521914c10088a4dc651eb84db7"), looks := true }, kinds := [], alts := [], laidByText := true, laidKinds := [.data, .pinned], laidTests := true, laidLooks := .later }
def FnExactTextJoinCardSaid : Prop := Claim7.holds Tryd.pinned (.plain (OpenSpec.ofChange fnExactTextJoinSpec)) fnExactTextJoinCard

/-- THE TIED CARD OF 'laws.FnExactTextTimes'. -/
def fnExactTextTimesCard : Claim7 := { stood := { row := fnExactTextTimesRow, standIns := [], harness := (true, "a63671ab05bdc6564417ab67bce4739a4a34e2521914c10088a4dc651eb84db7"), looks := true }, kinds := [], alts := [], laidByText := true, laidKinds := [.data, .pinned], laidTests := true, laidLooks := .later }
def FnExactTextTimesCardSaid : Prop := Claim7.holds Tryd.pinned (.plain (OpenSpec.ofChange fnExactTextTimesSpec)) fnExactTextTimesCard

/-- THE TIED CARD OF 'laws.FnExactTextFind'. -/
def fnExactTextFindCard : Claim7 := { stood := { row := fnExactTextFindRow, standIns := [], harness := (true, "a63671ab05bdc6564417ab67bce4739a4a34e2521914c10088a4dc651eb84db7"), looks := true }, kinds := [], alts := [], laidByText := true, laidKinds := [.data, .pinned], laidTests := true, laidLooks := .later }
def FnExactTextFindCardSaid : Prop := Claim7.holds Tryd.pinned (.plain (OpenSpec.ofChange fnExactTextFindSpec)) fnExactTextFindCard

/-- THE TIED CARD OF 'laws.FnExactTextCut'. -/
def fnExactTextCutCard : Claim7 := { stood := { row := fnExactTextCutRow, standIns := [], harness := (true, "a63671ab05bdc6564417ab67bce4739a4a34e2521914c10088a4dc651eb84db7"), looks := true }, kinds := [], alts := [], laidByText := true, laidKinds := [.data, .pinned], laidTests := true, laidLooks := .later }
def FnExactTextCutCardSaid : Prop := Claim7.holds Tryd.pinned (.plain (OpenSpec.ofChange fnExactTextCutSpec)) fnExactTextCutCard

/-- THE TIED CARD OF 'laws.FnSlices'. -/
def fnSlicesCard : Claim7 := { stood := { row := fnSlicesRow, standIns := [], harness := (true, "a63671ab05bdc6564417ab67bce4739a4a34e2521914c10088a4dc651eb84db7"), looks := true }, kinds := [], alts := [], laidByText := true, laidKinds := [.data, .pinned], laidTests := true, laidLooks := .later }
def FnSlicesCardSaid : Prop := Claim7.holds Tryd.pinned (.plain (OpenSpec.ofChange fnSlicesSpec)) fnSlicesCard

/-- THE TIED CARD OF 'laws.FnExactTextSplit'. -/
def fnExactTextSplitCard : Claim7 := { stood := { row := fnExactTextSplitRow, standIns := [], harness := (true, "a63671ab05bdc6564417ab67bce4739a4a34e2521914c10088a4dc651eb84db7"), looks := true }, kinds := [], alts := [], laidByText := true, laidKinds := [.data, .pinned], laidTests := true, laidLooks := .later }
def FnExactTextSplitCardSaid : Prop := Claim7.holds Tryd.pinned (.plain (OpenSpec.ofChange fnExactTextSplitSpec)) fnExactTextSplitCard

/-- THE TIED CARD OF 'laws.FnExactTextReplace'. -/
def fnExactTextReplaceCard : Claim7 := { stood := { row := fnExactTextReplaceRow, standIns := [], harness := (true, "a63671ab05bdc6564417ab67bce4739a4a34e2521914c10088a4dc651eb84db7"), looks := true }, kinds := [], alts := [], laidByText := true, laidKinds := [.data, .pinned], laidTests := true, laidLooks := .later }
def FnExactTextReplaceCardSaid : Prop := Claim7.holds Tryd.pinned (.plain (OpenSpec.ofChange fnExactTextReplaceSpec)) fnExactTextReplaceCard

/-- THE TIED CARD OF 'laws.FnExactTextRepr'. -/
def fnExactTextReprCard : Claim7 := { stood := { row := fnExactTextReprRow, standIns := [], harness := (true, "a63671ab05bdc6564417ab67bce4739a4a34e2521914c10088a4dc651eb84db7"), looks := true }, kinds := [], alts := [], laidByText := true, laidKinds := [.data, .data, .data, .data, .pinned], laidTests := true, laidLooks := .later }
def FnExactTextReprCardSaid : Prop := Claim7.holds Tryd.pinned (.plain (OpenSpec.ofChange fnExactTextReprSpec)) fnExactTextReprCard

/-- THE TIED CARD OF 'laws.FnPieces'. -/
def fnPiecesCard : Claim7 := { stood := { row := fnPiecesRow, standIns := [], harness := (true, "a63671ab05bdc6564417ab67bce4739a4a34e2521914c10088a4dc651eb84db7"), looks := true }, kinds := [], alts := [], laidByText := true, laidKinds := [.data, .pinned], laidTests := true, laidLooks := .later }
def FnPiecesCardSaid : Prop := Claim7.holds Tryd.pinned (.plain (OpenSpec.ofChange fnPiecesSpec)) fnPiecesCard

/-- THE TIED CARD OF 'laws.FnExactStrValue'. -/
def fnExactStrValueCard : Claim7 := { stood := { row := fnExactStrValueRow, standIns := [], harness := (true, "a63671ab05bdc6564417ab67bce4739a4a34e2521914c10088a4dc651eb84db7"), looks := true }, kinds := [], alts := [], laidByText := true, laidKinds := [.data, .data, .data, .data, .sentinel, .sentinel, .pinned], laidTests := true, laidLooks := .later }
def FnExactStrValueCardSaid : Prop := Claim7.holds Tryd.pinned (.plain (OpenSpec.ofChange fnExactStrValueSpec)) fnExactStrValueCard

/-- THE TIED CARD OF 'laws.FnExactFParts'. -/
def fnExactFPartsCard : Claim7 := { stood := { row := fnExactFPartsRow, standIns := [], harness := (true, "a63671ab05bdc6564417ab67bce4739a4a34e2521914c10088a4dc651eb84db7"), looks := true }, kinds := [], alts := [], laidByText := true, laidKinds := [.data, .data, .data, .data, .sentinel, .sentinel, .pinned], laidTests := true, laidLooks := .later }
def FnExactFPartsCardSaid : Prop := Claim7.holds Tryd.pinned (.plain (OpenSpec.ofChange fnExactFPartsSpec)) fnExactFPartsCard

/-- THE SECOND FORM's CARD OF 'laws.FnExactTextWords'. -/
def fnExactTextWordsUptoCard : Claim7 := { stood := { row := fnExactTextWordsUptoRow, standIns := [], harness := (true, "a63671ab05bdc6564417ab67bce4739a4a34e2521914c10088a4dc651eb84db7"), looks := true }, kinds := [], alts := [], laidByText := true, laidKinds := [.data, .pinned], laidTests := true, laidLooks := .later }
def FnExactTextWordsUptoCardSaid : Prop := Claim7.holds Tryd.pinned (.plain (OpenSpec.upto fnExactTextWordsSpec)) fnExactTextWordsUptoCard

/-- THE SECOND FORM's CARD OF 'laws.FnExactTextJoin'. -/
def fnExactTextJoinUptoCard : Claim7 := { stood := { row := fnExactTextJoinUptoRow, standIns := [], harness := (true, "a63671ab05bdc6564417ab67bce4739a4a34e2521914c10088a4dc651eb84db7"), looks := true }, kinds := [], alts := [], laidByText := true, laidKinds := [.data, .pinned], laidTests := true, laidLooks := .later }
def FnExactTextJoinUptoCardSaid : Prop := Claim7.holds Tryd.pinned (.plain (OpenSpec.upto fnExactTextJoinSpec)) fnExactTextJoinUptoCard

/-- THE SECOND FORM's CARD OF 'laws.FnExactTextTimes'. -/
def fnExactTextTimesUptoCard : Claim7 := { stood := { row := fnExactTextTimesUptoRow, standIns := [], harness := (true, "a63671ab05bdc6564417ab67bce4739a4a34e2521914c10088a4dc651eb84db7"), looks := true }, kinds := [], alts := [], laidByText := true, laidKinds := [.data, .pinned], laidTests := true, laidLooks := .later }
def FnExactTextTimesUptoCardSaid : Prop := Claim7.holds Tryd.pinned (.plain (OpenSpec.upto fnExactTextTimesSpec)) fnExactTextTimesUptoCard

/-- THE SECOND FORM's CARD OF 'laws.FnExactTextFind'. -/
def fnExactTextFindUptoCard : Claim7 := { stood := { row := fnExactTextFindUptoRow, standIns := [], harness := (true, "a63671ab05bdc6564417ab67bce4739a4a34e2521914c10088a4dc651eb84db7"), looks := true }, kinds := [], alts := [], laidByText := true, laidKinds := [.data, .pinned], laidTests := true, laidLooks := .later }
def FnExactTextFindUptoCardSaid : Prop := Claim7.holds Tryd.pinned (.plain (OpenSpec.upto fnExactTextFindSpec)) fnExactTextFindUptoCard

/-- THE SECOND FORM's CARD OF 'laws.FnExactTextCut'. -/
def fnExactTextCutUptoCard : Claim7 := { stood := { row := fnExactTextCutUptoRow, standIns := [], harness := (true, "a63671ab05bdc6564417ab67bce4739a4a34e2521914c10088a4dc651eb84db7"), looks := true }, kinds := [], alts := [], laidByText := true, laidKinds := [.data, .pinned], laidTests := true, laidLooks := .later }
def FnExactTextCutUptoCardSaid : Prop := Claim7.holds Tryd.pinned (.plain (OpenSpec.upto fnExactTextCutSpec)) fnExactTextCutUptoCard

/-- THE SECOND FORM's CARD OF 'laws.FnSlices'. -/
def fnSlicesUptoCard : Claim7 := { stood := { row := fnSlicesUptoRow, standIns := [], harness := (true, "a63671ab05bdc6564417ab67bce4739a4a34e2521914c10088a4dc651eb84db7"), looks := true }, kinds := [], alts := [], laidByText := true, laidKinds := [.data, .pinned], laidTests := true, laidLooks := .later }
def FnSlicesUptoCardSaid : Prop := Claim7.holds Tryd.pinned (.plain (OpenSpec.upto fnSlicesSpec)) fnSlicesUptoCard

/-- THE SECOND FORM's CARD OF 'laws.FnExactTextSplit'. -/
def fnExactTextSplitUptoCard : Claim7 := { stood := { row := fnExactTextSplitUptoRow, standIns := [], harness := (true, "a63671ab05bdc6564417ab67bce4739a4a34e2521914c10088a4dc651eb84db7"), looks := true }, kinds := [], alts := [], laidByText := true, laidKinds := [.data, .pinned], laidTests := true, laidLooks := .later }
def FnExactTextSplitUptoCardSaid : Prop := Claim7.holds Tryd.pinned (.plain (OpenSpec.upto fnExactTextSplitSpec)) fnExactTextSplitUptoCard

/-- THE SECOND FORM's CARD OF 'laws.FnExactTextReplace'. -/
def fnExactTextReplaceUptoCard : Claim7 := { stood := { row := fnExactTextReplaceUptoRow, standIns := [], harness := (true, "a63671ab05bdc6564417ab67bce4739a4a34e2521914c10088a4dc651eb84db7"), looks := true }, kinds := [], alts := [], laidByText := true, laidKinds := [.data, .pinned], laidTests := true, laidLooks := .later }
def FnExactTextReplaceUptoCardSaid : Prop := Claim7.holds Tryd.pinned (.plain (OpenSpec.upto fnExactTextReplaceSpec)) fnExactTextReplaceUptoCard

/-- THE SECOND FORM's CARD OF 'laws.FnExactTextRepr'. -/
def fnExactTextReprUptoCard : Claim7 := { stood := { row := fnExactTextReprUptoRow, standIns := [], harness := (true, "a63671ab05bdc6564417ab67bce4739a4a34e2521914c10088a4dc651eb84db7"), looks := true }, kinds := [], alts := [], laidByText := true, laidKinds := [.data, .data, .data, .data, .pinned], laidTests := true, laidLooks := .later }
def FnExactTextReprUptoCardSaid : Prop := Claim7.holds Tryd.pinned (.plain (OpenSpec.upto fnExactTextReprSpec)) fnExactTextReprUptoCard

/-- THE SECOND FORM's CARD OF 'laws.FnPieces'. -/
def fnPiecesUptoCard : Claim7 := { stood := { row := fnPiecesUptoRow, standIns := [], harness := (true, "a63671ab05bdc6564417ab67bce4739a4a34e2521914c10088a4dc651eb84db7"), looks := true }, kinds := [], alts := [], laidByText := true, laidKinds := [.data, .pinned], laidTests := true, laidLooks := .later }
def FnPiecesUptoCardSaid : Prop := Claim7.holds Tryd.pinned (.plain (OpenSpec.upto fnPiecesSpec)) fnPiecesUptoCard

/-- THE SECOND FORM's CARD OF 'laws.FnExactStrValue'. -/
def fnExactStrValueUptoCard : Claim7 := { stood := { row := fnExactStrValueUptoRow, standIns := [], harness := (true, "a63671ab05bdc6564417ab67bce4739a4a34e2521914c10088a4dc651eb84db7"), looks := true }, kinds := [], alts := [], laidByText := true, laidKinds := [.data, .data, .data, .data, .sentinel, .sentinel, .pinned], laidTests := true, laidLooks := .later }
def FnExactStrValueUptoCardSaid : Prop := Claim7.holds Tryd.pinned (.plain (OpenSpec.upto fnExactStrValueSpec)) fnExactStrValueUptoCard

/-- THE SECOND FORM's CARD OF 'laws.FnExactFParts'. -/
def fnExactFPartsUptoCard : Claim7 := { stood := { row := fnExactFPartsUptoRow, standIns := [], harness := (true, "a63671ab05bdc6564417ab67bce4739a4a34e2521914c10088a4dc651eb84db7"), looks := true }, kinds := [], alts := [], laidByText := true, laidKinds := [.data, .data, .data, .data, .sentinel, .sentinel, .pinned], laidTests := true, laidLooks := .later }
def FnExactFPartsUptoCardSaid : Prop := Claim7.holds Tryd.pinned (.plain (OpenSpec.upto fnExactFPartsSpec)) fnExactFPartsUptoCard
end Rows
end Go.Proofs.YtfgiodolgmfdoaaDoor
