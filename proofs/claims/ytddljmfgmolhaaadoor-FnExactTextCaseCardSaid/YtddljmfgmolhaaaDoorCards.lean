/-
  DERIVED. GIVEN WITH THE SEED: THE CARDS: each row of YtddljmfgmolhaaaDoorRows.lean that lists a variable, with what it lists TIED to the program's text (the seventh form; the later family's looks); each row that meets fmt, with fmt's text TOLD by the authors' own Lean function (tested against real Go, not proved from fmt's source: count such statements apart). THE CARD IS WHAT COUNTS. Prove the row's statement (the work); the ties are given (YtddljmfgmolhaaaDoorTie.lean); close each card by the builder's one call (the guide's Derived/Test/ToyasCard.lean, 'card_holds'). Laid BY PROGRAM, IN A SANDBOX (cutbox-door.mjs). By AI agents, Wed Nov 11 2026. No macro, syntax, notation, axiom, sorry.
-/
import Derived.Test.YtddljmfgmolhaaaDoorRows
import GoSem.ClaimSeven
namespace Go.Proofs.YtddljmfgmolhaaaDoor
namespace Rows

/-- THE TIED CARD OF 'laws.FnExactTextOk'. -/
def fnExactTextOkCard : Claim7 := { stood := { row := fnExactTextOkRow, standIns := [], harness := (true, "e57e5dbb156c7773832ec19a1bf69194e845849629e0339ca292215e49a82d3c"), looks := false }, kinds := [], alts := [], laidByText := true, laidKinds := [.data, .pinned], laidTests := true, laidLooks := .later }
def FnExactTextOkCardSaid : Prop := Claim7.holds Tryd.pinned (.plain (OpenSpec.ofChange fnExactTextOkSpec)) fnExactTextOkCard

/-- THE TIED CARD OF 'laws.FnExactTextLen'. -/
def fnExactTextLenCard : Claim7 := { stood := { row := fnExactTextLenRow, standIns := [], harness := (true, "e57e5dbb156c7773832ec19a1bf69194e845849629e0339ca292215e49a82d3c"), looks := false }, kinds := [], alts := [], laidByText := true, laidKinds := [.data, .pinned], laidTests := true, laidLooks := .later }
def FnExactTextLenCardSaid : Prop := Claim7.holds Tryd.pinned (.plain (OpenSpec.ofChange fnExactTextLenSpec)) fnExactTextLenCard

/-- THE TIED CARD OF 'laws.FnExactTextCase'. -/
def fnExactTextCaseCard : Claim7 := { stood := { row := fnExactTextCaseRow, standIns := [], harness := (true, "e57e5dbb156c7773832ec19a1bf69194e845849629e0339ca292215e49a82d3c"), looks := false }, kinds := [], alts := [], laidByText := true, laidKinds := [.data, .pinned], laidTests := true, laidLooks := .later }
def FnExactTextCaseCardSaid : Prop := Claim7.holds Tryd.pinned (.plain (OpenSpec.ofChange fnExactTextCaseSpec)) fnExactTextCaseCard

/-- THE SECOND FORM's CARD OF 'laws.FnExactTextOk'. -/
def fnExactTextOkUptoCard : Claim7 := { stood := { row := fnExactTextOkUptoRow, standIns := [], harness := (true, "e57e5dbb156c7773832ec19a1bf69194e845849629e0339ca292215e49a82d3c"), looks := false }, kinds := [], alts := [], laidByText := true, laidKinds := [.data, .pinned], laidTests := true, laidLooks := .later }
def FnExactTextOkUptoCardSaid : Prop := Claim7.holds Tryd.pinned (.plain (OpenSpec.upto fnExactTextOkSpec)) fnExactTextOkUptoCard

/-- THE SECOND FORM's CARD OF 'laws.FnExactTextLen'. -/
def fnExactTextLenUptoCard : Claim7 := { stood := { row := fnExactTextLenUptoRow, standIns := [], harness := (true, "e57e5dbb156c7773832ec19a1bf69194e845849629e0339ca292215e49a82d3c"), looks := false }, kinds := [], alts := [], laidByText := true, laidKinds := [.data, .pinned], laidTests := true, laidLooks := .later }
def FnExactTextLenUptoCardSaid : Prop := Claim7.holds Tryd.pinned (.plain (OpenSpec.upto fnExactTextLenSpec)) fnExactTextLenUptoCard

/-- THE SECOND FORM's CARD OF 'laws.FnExactTextCase'. -/
def fnExactTextCaseUptoCard : Claim7 := { stood := { row := fnExactTextCaseUptoRow, standIns := [], harness := (true, "e57e5dbb156c7773832ec19a1bf69194e845849629e0339ca292215e49a82d3c"), looks := false }, kinds := [], alts := [], laidByText := true, laidKinds := [.data, .pinned], laidTests := true, laidLooks := .later }
def FnExactTextCaseUptoCardSaid : Prop := Claim7.holds Tryd.pinned (.plain (OpenSpec.upto fnExactTextCaseSpec)) fnExactTextCaseUptoCard
end Rows
end Go.Proofs.YtddljmfgmolhaaaDoor
