/-
  DERIVED. GIVEN WITH THE SEED: THE CARDS: each row of YtlhipgejiacklaaDoorRows.lean that lists a variable, with what it lists TIED to the program's text (the seventh form; the later family's looks); each row that meets fmt, with fmt's text TOLD by the authors' own Lean function (tested against real Go, not proved from fmt's source: count such statements apart). THE CARD IS WHAT COUNTS. Prove the row's statement (the work); the ties are given (YtlhipgejiacklaaDoorTie.lean); close each card by the builder's one call (the guide's Derived/Test/ToyasCard.lean, 'card_holds'). Laid BY PROGRAM, IN A SANDBOX (cutbox-door.mjs). By AI agents, Wed Nov 11 2026. No macro, syntax, notation, axiom, sorry.
-/
import Derived.Test.YtlhipgejiacklaaDoorRows
import GoSem.ClaimSeven
namespace Go.Proofs.YtlhipgejiacklaaDoor
namespace Rows

/-- THE TIED CARD OF 'reportescrowlaw08.RefreshKeeps'. -/
def refreshKeepsCard : Claim7 := { stood := { row := refreshKeepsRow, standIns := [], harness := (true, "2871499c0aa14dbda5fabdd80fa079ce2cd93f25268d3b25123a04647589c9fe"), looks := false }, kinds := [], alts := [], laidByText := true, laidKinds := [.data], laidTests := true, laidLooks := .later }
def RefreshKeepsCardSaid : Prop := Claim7.holds Tryd.pinned (.plain (OpenSpec.ofChange refreshKeepsSpec)) refreshKeepsCard

/-- THE TIED CARD OF 'reportescrowlaw08.RefreshOrders'. -/
def refreshOrdersCard : Claim7 := { stood := { row := refreshOrdersRow, standIns := [], harness := (true, "2871499c0aa14dbda5fabdd80fa079ce2cd93f25268d3b25123a04647589c9fe"), looks := false }, kinds := [], alts := [], laidByText := true, laidKinds := [.data], laidTests := true, laidLooks := .later }
def RefreshOrdersCardSaid : Prop := Claim7.holds Tryd.pinned (.plain (OpenSpec.ofChange refreshOrdersSpec)) refreshOrdersCard

/-- THE TIED CARD OF 'reportescrowlaw08.RefreshMixes'. -/
def refreshMixesCard : Claim7 := { stood := { row := refreshMixesRow, standIns := [], harness := (true, "2871499c0aa14dbda5fabdd80fa079ce2cd93f25268d3b25123a04647589c9fe"), looks := false }, kinds := [], alts := [], laidByText := true, laidKinds := [.data], laidTests := true, laidLooks := .later }
def RefreshMixesCardSaid : Prop := Claim7.holds Tryd.pinned (.plain (OpenSpec.ofChange refreshMixesSpec)) refreshMixesCard

/-- THE TIED CARD OF 'reportescrowlaw08.RefreshOld'. -/
def refreshOldCard : Claim7 := { stood := { row := refreshOldRow, standIns := [], harness := (true, "2871499c0aa14dbda5fabdd80fa079ce2cd93f25268d3b25123a04647589c9fe"), looks := false }, kinds := [], alts := [], laidByText := true, laidKinds := [.data], laidTests := true, laidLooks := .later }
def RefreshOldCardSaid : Prop := Claim7.holds Tryd.pinned (.plain (OpenSpec.ofChange refreshOldSpec)) refreshOldCard

/-- THE TIED CARD OF 'reportescrowlaw08.RefreshActs'. -/
def refreshActsCard : Claim7 := { stood := { row := refreshActsRow, standIns := [], harness := (true, "2871499c0aa14dbda5fabdd80fa079ce2cd93f25268d3b25123a04647589c9fe"), looks := false }, kinds := [], alts := [], laidByText := true, laidKinds := [.data], laidTests := true, laidLooks := .later }
def RefreshActsCardSaid : Prop := Claim7.holds Tryd.pinned (.plain (OpenSpec.ofChange refreshActsSpec)) refreshActsCard

/-- THE TIED CARD OF 'reportescrowlaw09.ReshareActs'. -/
def reshareActsCard : Claim7 := { stood := { row := reshareActsRow, standIns := [], harness := (true, "2871499c0aa14dbda5fabdd80fa079ce2cd93f25268d3b25123a04647589c9fe"), looks := false }, kinds := [], alts := [], laidByText := true, laidKinds := [.data], laidTests := true, laidLooks := .later }
def ReshareActsCardSaid : Prop := Claim7.holds Tryd.pinned (.plain (OpenSpec.ofChange reshareActsSpec)) reshareActsCard

/-- THE TIED CARD OF 'reportescrowlaw09.ReshareMoves'. -/
def reshareMovesCard : Claim7 := { stood := { row := reshareMovesRow, standIns := [], harness := (true, "2871499c0aa14dbda5fabdd80fa079ce2cd93f25268d3b25123a04647589c9fe"), looks := false }, kinds := [], alts := [], laidByText := true, laidKinds := [.data], laidTests := true, laidLooks := .later }
def ReshareMovesCardSaid : Prop := Claim7.holds Tryd.pinned (.plain (OpenSpec.ofChange reshareMovesSpec)) reshareMovesCard

/-- THE TIED CARD OF 'reportescrowlaw09.ReshareParts'. -/
def resharePartsCard : Claim7 := { stood := { row := resharePartsRow, standIns := [], harness := (true, "2871499c0aa14dbda5fabdd80fa079ce2cd93f25268d3b25123a04647589c9fe"), looks := false }, kinds := [], alts := [], laidByText := true, laidKinds := [.data], laidTests := true, laidLooks := .later }
def ResharePartsCardSaid : Prop := Claim7.holds Tryd.pinned (.plain (OpenSpec.ofChange resharePartsSpec)) resharePartsCard

/-- THE TIED CARD OF 'reportescrowlaw09.ReshareBack'. -/
def reshareBackCard : Claim7 := { stood := { row := reshareBackRow, standIns := [], harness := (true, "2871499c0aa14dbda5fabdd80fa079ce2cd93f25268d3b25123a04647589c9fe"), looks := false }, kinds := [], alts := [], laidByText := true, laidKinds := [.data], laidTests := true, laidLooks := .later }
def ReshareBackCardSaid : Prop := Claim7.holds Tryd.pinned (.plain (OpenSpec.ofChange reshareBackSpec)) reshareBackCard

/-- THE TIED CARD OF 'reportescrowlaw09.ReshareHides'. -/
def reshareHidesCard : Claim7 := { stood := { row := reshareHidesRow, standIns := [], harness := (true, "2871499c0aa14dbda5fabdd80fa079ce2cd93f25268d3b25123a04647589c9fe"), looks := false }, kinds := [], alts := [], laidByText := true, laidKinds := [.data], laidTests := true, laidLooks := .later }
def ReshareHidesCardSaid : Prop := Claim7.holds Tryd.pinned (.plain (OpenSpec.ofChange reshareHidesSpec)) reshareHidesCard

/-- THE SECOND FORM's CARD OF 'reportescrowlaw08.RefreshKeeps'. -/
def refreshKeepsUptoCard : Claim7 := { stood := { row := refreshKeepsUptoRow, standIns := [], harness := (true, "2871499c0aa14dbda5fabdd80fa079ce2cd93f25268d3b25123a04647589c9fe"), looks := false }, kinds := [], alts := [], laidByText := true, laidKinds := [.data], laidTests := true, laidLooks := .later }
def RefreshKeepsUptoCardSaid : Prop := Claim7.holds Tryd.pinned (.plain (OpenSpec.upto refreshKeepsSpec)) refreshKeepsUptoCard

/-- THE SECOND FORM's CARD OF 'reportescrowlaw08.RefreshOrders'. -/
def refreshOrdersUptoCard : Claim7 := { stood := { row := refreshOrdersUptoRow, standIns := [], harness := (true, "2871499c0aa14dbda5fabdd80fa079ce2cd93f25268d3b25123a04647589c9fe"), looks := false }, kinds := [], alts := [], laidByText := true, laidKinds := [.data], laidTests := true, laidLooks := .later }
def RefreshOrdersUptoCardSaid : Prop := Claim7.holds Tryd.pinned (.plain (OpenSpec.upto refreshOrdersSpec)) refreshOrdersUptoCard

/-- THE SECOND FORM's CARD OF 'reportescrowlaw08.RefreshMixes'. -/
def refreshMixesUptoCard : Claim7 := { stood := { row := refreshMixesUptoRow, standIns := [], harness := (true, "2871499c0aa14dbda5fabdd80fa079ce2cd93f25268d3b25123a04647589c9fe"), looks := false }, kinds := [], alts := [], laidByText := true, laidKinds := [.data], laidTests := true, laidLooks := .later }
def RefreshMixesUptoCardSaid : Prop := Claim7.holds Tryd.pinned (.plain (OpenSpec.upto refreshMixesSpec)) refreshMixesUptoCard

/-- THE SECOND FORM's CARD OF 'reportescrowlaw08.RefreshOld'. -/
def refreshOldUptoCard : Claim7 := { stood := { row := refreshOldUptoRow, standIns := [], harness := (true, "2871499c0aa14dbda5fabdd80fa079ce2cd93f25268d3b25123a04647589c9fe"), looks := false }, kinds := [], alts := [], laidByText := true, laidKinds := [.data], laidTests := true, laidLooks := .later }
def RefreshOldUptoCardSaid : Prop := Claim7.holds Tryd.pinned (.plain (OpenSpec.upto refreshOldSpec)) refreshOldUptoCard

/-- THE SECOND FORM's CARD OF 'reportescrowlaw08.RefreshActs'. -/
def refreshActsUptoCard : Claim7 := { stood := { row := refreshActsUptoRow, standIns := [], harness := (true, "2871499c0aa14dbda5fabdd80fa079ce2cd93f25268d3b25123a04647589c9fe"), looks := false }, kinds := [], alts := [], laidByText := true, laidKinds := [.data], laidTests := true, laidLooks := .later }
def RefreshActsUptoCardSaid : Prop := Claim7.holds Tryd.pinned (.plain (OpenSpec.upto refreshActsSpec)) refreshActsUptoCard

/-- THE SECOND FORM's CARD OF 'reportescrowlaw09.ReshareActs'. -/
def reshareActsUptoCard : Claim7 := { stood := { row := reshareActsUptoRow, standIns := [], harness := (true, "2871499c0aa14dbda5fabdd80fa079ce2cd93f25268d3b25123a04647589c9fe"), looks := false }, kinds := [], alts := [], laidByText := true, laidKinds := [.data], laidTests := true, laidLooks := .later }
def ReshareActsUptoCardSaid : Prop := Claim7.holds Tryd.pinned (.plain (OpenSpec.upto reshareActsSpec)) reshareActsUptoCard

/-- THE SECOND FORM's CARD OF 'reportescrowlaw09.ReshareMoves'. -/
def reshareMovesUptoCard : Claim7 := { stood := { row := reshareMovesUptoRow, standIns := [], harness := (true, "2871499c0aa14dbda5fabdd80fa079ce2cd93f25268d3b25123a04647589c9fe"), looks := false }, kinds := [], alts := [], laidByText := true, laidKinds := [.data], laidTests := true, laidLooks := .later }
def ReshareMovesUptoCardSaid : Prop := Claim7.holds Tryd.pinned (.plain (OpenSpec.upto reshareMovesSpec)) reshareMovesUptoCard

/-- THE SECOND FORM's CARD OF 'reportescrowlaw09.ReshareParts'. -/
def resharePartsUptoCard : Claim7 := { stood := { row := resharePartsUptoRow, standIns := [], harness := (true, "2871499c0aa14dbda5fabdd80fa079ce2cd93f25268d3b25123a04647589c9fe"), looks := false }, kinds := [], alts := [], laidByText := true, laidKinds := [.data], laidTests := true, laidLooks := .later }
def ResharePartsUptoCardSaid : Prop := Claim7.holds Tryd.pinned (.plain (OpenSpec.upto resharePartsSpec)) resharePartsUptoCard

/-- THE SECOND FORM's CARD OF 'reportescrowlaw09.ReshareBack'. -/
def reshareBackUptoCard : Claim7 := { stood := { row := reshareBackUptoRow, standIns := [], harness := (true, "2871499c0aa14dbda5fabdd80fa079ce2cd93f25268d3b25123a04647589c9fe"), looks := false }, kinds := [], alts := [], laidByText := true, laidKinds := [.data], laidTests := true, laidLooks := .later }
def ReshareBackUptoCardSaid : Prop := Claim7.holds Tryd.pinned (.plain (OpenSpec.upto reshareBackSpec)) reshareBackUptoCard

/-- THE SECOND FORM's CARD OF 'reportescrowlaw09.ReshareHides'. -/
def reshareHidesUptoCard : Claim7 := { stood := { row := reshareHidesUptoRow, standIns := [], harness := (true, "2871499c0aa14dbda5fabdd80fa079ce2cd93f25268d3b25123a04647589c9fe"), looks := false }, kinds := [], alts := [], laidByText := true, laidKinds := [.data], laidTests := true, laidLooks := .later }
def ReshareHidesUptoCardSaid : Prop := Claim7.holds Tryd.pinned (.plain (OpenSpec.upto reshareHidesSpec)) reshareHidesUptoCard
end Rows
end Go.Proofs.YtlhipgejiacklaaDoor
