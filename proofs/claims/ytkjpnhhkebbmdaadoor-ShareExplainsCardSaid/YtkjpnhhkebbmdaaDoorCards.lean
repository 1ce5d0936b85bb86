/-
  DERIVED. GIVEN WITH THE SEED: THE CARDS: each row of YtkjpnhhkebbmdaaDoorRows.lean that lists a variable, with what it lists TIED to the program's text (the seventh form; the later family's looks); each row that meets fmt, with fmt's text TOLD by the authors' own Lean function (tested against real Go, not proved from fmt's source: count such statements apart). THE CARD IS WHAT COUNTS. Prove the row's statement (the work); the ties are given (YtkjpnhhkebbmdaaDoorTie.lean); close each card by the builder's one call (the guide's Derived/Test/ToyasCard.lean, 'card_holds'). Laid BY PROGRAM, IN A SANDBOX (cutbox-door.mjs). By AI agents, Wed Nov 11 2026. No macro, syntax, notation, axiom, sorry.
-/
import Derived.Test.YtkjpnhhkebbmdaaDoorRows
import GoSem.ClaimSeven
namespace Go.Proofs.YtkjpnhhkebbmdaaDoor
namespace Rows

/-- THE TIED CARD OF 'reportescrowlaw06.ShareDeals'. -/
def shareDealsCard : Claim7 := { stood := { row := shareDealsRow, standIns := [], harness := (true, "e4ccfc48b943c4891742741f6b034dfbb3d0b510c3a0bd3a8ac4885b6e9ab631"), looks := false }, kinds := [], alts := [], laidByText := true, laidKinds := [.data], laidTests := true, laidLooks := .later }
def ShareDealsCardSaid : Prop := Claim7.holds Tryd.pinned (.plain (OpenSpec.ofChange shareDealsSpec)) shareDealsCard

/-- THE TIED CARD OF 'reportescrowlaw06.ShareCounts'. -/
def shareCountsCard : Claim7 := { stood := { row := shareCountsRow, standIns := [], harness := (true, "e4ccfc48b943c4891742741f6b034dfbb3d0b510c3a0bd3a8ac4885b6e9ab631"), looks := false }, kinds := [], alts := [], laidByText := true, laidKinds := [.data], laidTests := true, laidLooks := .later }
def ShareCountsCardSaid : Prop := Claim7.holds Tryd.pinned (.plain (OpenSpec.ofChange shareCountsSpec)) shareCountsCard

/-- THE TIED CARD OF 'reportescrowlaw06.ShareSecrets'. -/
def shareSecretsCard : Claim7 := { stood := { row := shareSecretsRow, standIns := [], harness := (true, "e4ccfc48b943c4891742741f6b034dfbb3d0b510c3a0bd3a8ac4885b6e9ab631"), looks := false }, kinds := [], alts := [], laidByText := true, laidKinds := [.data], laidTests := true, laidLooks := .later }
def ShareSecretsCardSaid : Prop := Claim7.holds Tryd.pinned (.plain (OpenSpec.ofChange shareSecretsSpec)) shareSecretsCard

/-- THE TIED CARD OF 'reportescrowlaw06.ShareCombines'. -/
def shareCombinesCard : Claim7 := { stood := { row := shareCombinesRow, standIns := [], harness := (true, "e4ccfc48b943c4891742741f6b034dfbb3d0b510c3a0bd3a8ac4885b6e9ab631"), looks := false }, kinds := [], alts := [], laidByText := true, laidKinds := [.data], laidTests := true, laidLooks := .later }
def ShareCombinesCardSaid : Prop := Claim7.holds Tryd.pinned (.plain (OpenSpec.ofChange shareCombinesSpec)) shareCombinesCard

/-- THE TIED CARD OF 'reportescrowlaw06.ShareSums'. -/
def shareSumsCard : Claim7 := { stood := { row := shareSumsRow, standIns := [], harness := (true, "e4ccfc48b943c4891742741f6b034dfbb3d0b510c3a0bd3a8ac4885b6e9ab631"), looks := false }, kinds := [], alts := [], laidByText := true, laidKinds := [.data], laidTests := true, laidLooks := .later }
def ShareSumsCardSaid : Prop := Claim7.holds Tryd.pinned (.plain (OpenSpec.ofChange shareSumsSpec)) shareSumsCard

/-- THE TIED CARD OF 'reportescrowlaw06.ShareExplains'. -/
def shareExplainsCard : Claim7 := { stood := { row := shareExplainsRow, standIns := [], harness := (true, "e4ccfc48b943c4891742741f6b034dfbb3d0b510c3a0bd3a8ac4885b6e9ab631"), looks := false }, kinds := [], alts := [], laidByText := true, laidKinds := [.data], laidTests := true, laidLooks := .later }
def ShareExplainsCardSaid : Prop := Claim7.holds Tryd.pinned (.plain (OpenSpec.ofChange shareExplainsSpec)) shareExplainsCard

/-- THE TIED CARD OF 'reportescrowlaw06.ShareHides'. -/
def shareHidesCard : Claim7 := { stood := { row := shareHidesRow, standIns := [], harness := (true, "e4ccfc48b943c4891742741f6b034dfbb3d0b510c3a0bd3a8ac4885b6e9ab631"), looks := false }, kinds := [], alts := [], laidByText := true, laidKinds := [.data], laidTests := true, laidLooks := .later }
def ShareHidesCardSaid : Prop := Claim7.holds Tryd.pinned (.plain (OpenSpec.ofChange shareHidesSpec)) shareHidesCard

/-- THE SECOND FORM's CARD OF 'reportescrowlaw06.ShareDeals'. -/
def shareDealsUptoCard : Claim7 := { stood := { row := shareDealsUptoRow, standIns := [], harness := (true, "e4ccfc48b943c4891742741f6b034dfbb3d0b510c3a0bd3a8ac4885b6e9ab631"), looks := false }, kinds := [], alts := [], laidByText := true, laidKinds := [.data], laidTests := true, laidLooks := .later }
def ShareDealsUptoCardSaid : Prop := Claim7.holds Tryd.pinned (.plain (OpenSpec.upto shareDealsSpec)) shareDealsUptoCard

/-- THE SECOND FORM's CARD OF 'reportescrowlaw06.ShareCounts'. -/
def shareCountsUptoCard : Claim7 := { stood := { row := shareCountsUptoRow, standIns := [], harness := (true, "e4ccfc48b943c4891742741f6b034dfbb3d0b510c3a0bd3a8ac4885b6e9ab631"), looks := false }, kinds := [], alts := [], laidByText := true, laidKinds := [.data], laidTests := true, laidLooks := .later }
def ShareCountsUptoCardSaid : Prop := Claim7.holds Tryd.pinned (.plain (OpenSpec.upto shareCountsSpec)) shareCountsUptoCard

/-- THE SECOND FORM's CARD OF 'reportescrowlaw06.ShareSecrets'. -/
def shareSecretsUptoCard : Claim7 := { stood := { row := shareSecretsUptoRow, standIns := [], harness := (true, "e4ccfc48b943c4891742741f6b034dfbb3d0b510c3a0bd3a8ac4885b6e9ab631"), looks := false }, kinds := [], alts := [], laidByText := true, laidKinds := [.data], laidTests := true, laidLooks := .later }
def ShareSecretsUptoCardSaid : Prop := Claim7.holds Tryd.pinned (.plain (OpenSpec.upto shareSecretsSpec)) shareSecretsUptoCard

/-- THE SECOND FORM's CARD OF 'reportescrowlaw06.ShareCombines'. -/
def shareCombinesUptoCard : Claim7 := { stood := { row := shareCombinesUptoRow, standIns := [], harness := (true, "e4ccfc48b943c4891742741f6b034dfbb3d0b510c3a0bd3a8ac4885b6e9ab631"), looks := false }, kinds := [], alts := [], laidByText := true, laidKinds := [.data], laidTests := true, laidLooks := .later }
def ShareCombinesUptoCardSaid : Prop := Claim7.holds Tryd.pinned (.plain (OpenSpec.upto shareCombinesSpec)) shareCombinesUptoCard

/-- THE SECOND FORM's CARD OF 'reportescrowlaw06.ShareSums'. -/
def shareSumsUptoCard : Claim7 := { stood := { row := shareSumsUptoRow, standIns := [], harness := (true, "e4ccfc48b943c4891742741f6b034dfbb3d0b510c3a0bd3a8ac4885b6e9ab631"), looks := false }, kinds := [], alts := [], laidByText := true, laidKinds := [.data], laidTests := true, laidLooks := .later }
def ShareSumsUptoCardSaid : Prop := Claim7.holds Tryd.pinned (.plain (OpenSpec.upto shareSumsSpec)) shareSumsUptoCard

/-- THE SECOND FORM's CARD OF 'reportescrowlaw06.ShareExplains'. -/
def shareExplainsUptoCard : Claim7 := { stood := { row := shareExplainsUptoRow, standIns := [], harness := (true, "e4ccfc48b943c4891742741f6b034dfbb3d0b510c3a0bd3a8ac4885b6e9ab631"), looks := false }, kinds := [], alts := [], laidByText := true, laidKinds := [.data], laidTests := true, laidLooks := .later }
def ShareExplainsUptoCardSaid : Prop := Claim7.holds Tryd.pinned (.plain (OpenSpec.upto shareExplainsSpec)) shareExplainsUptoCard

/-- THE SECOND FORM's CARD OF 'reportescrowlaw06.ShareHides'. -/
def shareHidesUptoCard : Claim7 := { stood := { row := shareHidesUptoRow, standIns := [], harness := (true, "e4ccfc48b943c4891742741f6b034dfbb3d0b510c3a0bd3a8ac4885b6e9ab631"), looks := false }, kinds := [], alts := [], laidByText := true, laidKinds := [.data], laidTests := true, laidLooks := .later }
def ShareHidesUptoCardSaid : Prop := Claim7.holds Tryd.pinned (.plain (OpenSpec.upto shareHidesSpec)) shareHidesUptoCard
end Rows
end Go.Proofs.YtkjpnhhkebbmdaaDoor
