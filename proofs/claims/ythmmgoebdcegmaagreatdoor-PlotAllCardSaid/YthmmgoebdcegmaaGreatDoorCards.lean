/-
  DERIVED. GIVEN WITH THE SEED: THE CARDS: each row of YthmmgoebdcegmaaGreatDoorRows.lean that lists a variable, with what it lists TIED to the program's text (the seventh form; the later family's looks); each row that meets fmt, with fmt's text TOLD by the authors' own Lean function (tested against real Go, not proved from fmt's source: count such statements apart). THE CARD IS WHAT COUNTS. Prove the row's statement (the work); the ties are given (YthmmgoebdcegmaaGreatDoorTie.lean); close each card by the builder's one call (the guide's Derived/Test/ToyasCard.lean, 'card_holds'). Laid BY PROGRAM, IN A SANDBOX (cutbox-door.mjs). By AI agents, Wed Nov 11 2026. No macro, syntax, notation, axiom, sorry.
-/
import Derived.Test.YthmmgoebdcegmaaGreatDoorRows
import GoSem.ClaimSeven
namespace Go.Proofs.YthmmgoebdcegmaaGreatDoor
namespace Rows

/-- THE TIED CARD OF 'queuelablaw38.PlotChoices'. -/
def plotChoicesCard : Claim7 := { stood := { row := plotChoicesRow, standIns := [], harness := (true, "09c6d068473cc65f03dc25663a3f8aaa6f69c9f254112c4ea2a007dd4beeb211"), looks := true }, kinds := [], alts := [], laidByText := true, laidKinds := [.data, .data, .data], laidTests := true, laidLooks := .later }
def PlotChoicesCardSaid : Prop := Claim7.holds Tryz.pinned (.plain (OpenSpec.ofChange plotChoicesSpec)) plotChoicesCard

/-- THE TIED CARD OF 'queuelablaw38.PlotAll'. -/
def plotAllCard : Claim7 := { stood := { row := plotAllRow, standIns := [], harness := (true, "09c6d068473cc65f03dc25663a3f8aaa6f69c9f254112c4ea2a007dd4beeb211"), looks := true }, kinds := [], alts := [], laidByText := true, laidKinds := [.data, .data, .data], laidTests := true, laidLooks := .later }
def PlotAllCardSaid : Prop := Claim7.holds Tryz.pinned (.plain (OpenSpec.ofChange plotAllSpec)) plotAllCard

/-- THE TIED CARD OF 'queuelablaw38.PlotMore'. -/
def plotMoreCard : Claim7 := { stood := { row := plotMoreRow, standIns := [], harness := (true, "09c6d068473cc65f03dc25663a3f8aaa6f69c9f254112c4ea2a007dd4beeb211"), looks := true }, kinds := [], alts := [], laidByText := true, laidKinds := [.data, .data, .data], laidTests := true, laidLooks := .later }
def PlotMoreCardSaid : Prop := Claim7.holds Tryz.pinned (.plain (OpenSpec.ofChange plotMoreSpec)) plotMoreCard

/-- THE TIED CARD OF 'queuelablaw33.LedgerCounts'. -/
def ledgerCountsCard : Claim7 := { stood := { row := ledgerCountsRow, standIns := [], harness := (true, "09c6d068473cc65f03dc25663a3f8aaa6f69c9f254112c4ea2a007dd4beeb211"), looks := true }, kinds := [], alts := [], laidByText := true, laidKinds := [.data, .data, .data], laidTests := true, laidLooks := .later }
def LedgerCountsCardSaid : Prop := Claim7.holds Tryz.pinned (.plain (OpenSpec.ofChange ledgerCountsSpec)) ledgerCountsCard

/-- THE TIED CARD OF 'queuelablaw34.CutParts'. -/
def cutPartsCard : Claim7 := { stood := { row := cutPartsRow, standIns := [], harness := (true, "09c6d068473cc65f03dc25663a3f8aaa6f69c9f254112c4ea2a007dd4beeb211"), looks := true }, kinds := [], alts := [], laidByText := true, laidKinds := [.data, .data, .data], laidTests := true, laidLooks := .later }
def CutPartsCardSaid : Prop := Claim7.holds Tryz.pinned (.plain (OpenSpec.ofChange cutPartsSpec)) cutPartsCard

/-- THE TIED CARD OF 'queuelablaw34.CutOrder'. -/
def cutOrderCard : Claim7 := { stood := { row := cutOrderRow, standIns := [], harness := (true, "09c6d068473cc65f03dc25663a3f8aaa6f69c9f254112c4ea2a007dd4beeb211"), looks := true }, kinds := [], alts := [], laidByText := true, laidKinds := [.data, .data, .data], laidTests := true, laidLooks := .later }
def CutOrderCardSaid : Prop := Claim7.holds Tryz.pinned (.plain (OpenSpec.ofChange cutOrderSpec)) cutOrderCard

/-- THE SECOND FORM's CARD OF 'queuelablaw38.PlotChoices'. -/
def plotChoicesUptoCard : Claim7 := { stood := { row := plotChoicesUptoRow, standIns := [], harness := (true, "09c6d068473cc65f03dc25663a3f8aaa6f69c9f254112c4ea2a007dd4beeb211"), looks := true }, kinds := [], alts := [], laidByText := true, laidKinds := [.data, .data, .data], laidTests := true, laidLooks := .later }
def PlotChoicesUptoCardSaid : Prop := Claim7.holds Tryz.pinned (.plain (OpenSpec.upto plotChoicesSpec)) plotChoicesUptoCard

/-- THE SECOND FORM's CARD OF 'queuelablaw38.PlotAll'. -/
def plotAllUptoCard : Claim7 := { stood := { row := plotAllUptoRow, standIns := [], harness := (true, "09c6d068473cc65f03dc25663a3f8aaa6f69c9f254112c4ea2a007dd4beeb211"), looks := true }, kinds := [], alts := [], laidByText := true, laidKinds := [.data, .data, .data], laidTests := true, laidLooks := .later }
def PlotAllUptoCardSaid : Prop := Claim7.holds Tryz.pinned (.plain (OpenSpec.upto plotAllSpec)) plotAllUptoCard

/-- THE SECOND FORM's CARD OF 'queuelablaw38.PlotMore'. -/
def plotMoreUptoCard : Claim7 := { stood := { row := plotMoreUptoRow, standIns := [], harness := (true, "09c6d068473cc65f03dc25663a3f8aaa6f69c9f254112c4ea2a007dd4beeb211"), looks := true }, kinds := [], alts := [], laidByText := true, laidKinds := [.data, .data, .data], laidTests := true, laidLooks := .later }
def PlotMoreUptoCardSaid : Prop := Claim7.holds Tryz.pinned (.plain (OpenSpec.upto plotMoreSpec)) plotMoreUptoCard

/-- THE SECOND FORM's CARD OF 'queuelablaw33.LedgerCounts'. -/
def ledgerCountsUptoCard : Claim7 := { stood := { row := ledgerCountsUptoRow, standIns := [], harness := (true, "09c6d068473cc65f03dc25663a3f8aaa6f69c9f254112c4ea2a007dd4beeb211"), looks := true }, kinds := [], alts := [], laidByText := true, laidKinds := [.data, .data, .data], laidTests := true, laidLooks := .later }
def LedgerCountsUptoCardSaid : Prop := Claim7.holds Tryz.pinned (.plain (OpenSpec.upto ledgerCountsSpec)) ledgerCountsUptoCard

/-- THE SECOND FORM's CARD OF 'queuelablaw34.CutParts'. -/
def cutPartsUptoCard : Claim7 := { stood := { row := cutPartsUptoRow, standIns := [], harness := (true, "09c6d068473cc65f03dc25663a3f8aaa6f69c9f254112c4ea2a007dd4beeb211"), looks := true }, kinds := [], alts := [], laidByText := true, laidKinds := [.data, .data, .data], laidTests := true, laidLooks := .later }
def CutPartsUptoCardSaid : Prop := Claim7.holds Tryz.pinned (.plain (OpenSpec.upto cutPartsSpec)) cutPartsUptoCard

/-- THE SECOND FORM's CARD OF 'queuelablaw34.CutOrder'. -/
def cutOrderUptoCard : Claim7 := { stood := { row := cutOrderUptoRow, standIns := [], harness := (true, "09c6d068473cc65f03dc25663a3f8aaa6f69c9f254112c4ea2a007dd4beeb211"), looks := true }, kinds := [], alts := [], laidByText := true, laidKinds := [.data, .data, .data], laidTests := true, laidLooks := .later }
def CutOrderUptoCardSaid : Prop := Claim7.holds Tryz.pinned (.plain (OpenSpec.upto cutOrderSpec)) cutOrderUptoCard
end Rows
end Go.Proofs.YthmmgoebdcegmaaGreatDoor
