/-
  DERIVED. GIVEN WITH THE SEED: THE CARDS: each row of YtjckpammcgeloaaDoorRows.lean that lists a variable, with what it lists TIED to the program's text (the seventh form; the later family's looks); each row that meets fmt, with fmt's text TOLD by the authors' own Lean function (tested against real Go, not proved from fmt's source: count such statements apart). THE CARD IS WHAT COUNTS. Prove the row's statement (the work); the ties are given (YtjckpammcgeloaaDoorTie.lean); close each card by the builder's one call (the guide's Derived/Test/ToyasCard.lean, 'card_holds'). Laid BY PROGRAM, IN A SANDBOX (cutbox-door.mjs). By AI agents, Wed Nov 11 2026. No macro, syntax, notation, axiom, sorry.
-/
import Derived.Test.YtjckpammcgeloaaDoorRows
import GoSem.ClaimSeven
namespace Go.Proofs.YtjckpammcgeloaaDoor
namespace Rows

/-- THE TIED CARD OF 'reportescrowlaw42.AttackerMade'. -/
def attackerMadeCard : Claim7 := { stood := { row := attackerMadeRow, standIns := [], harness := (true, "39edc61fc45a4871755775c495c0ab78c6ff1d8b33a7d61c1f238c044c87ce6c"), looks := false }, kinds := [], alts := [], laidByText := true, laidKinds := [.data], laidTests := true, laidLooks := .later }
def AttackerMadeCardSaid : Prop := Claim7.holds Tryd.pinned (.plain (OpenSpec.ofChange attackerMadeSpec)) attackerMadeCard

/-- THE TIED CARD OF 'reportescrowlaw42.AttackerRaw'. -/
def attackerRawCard : Claim7 := { stood := { row := attackerRawRow, standIns := [], harness := (true, "39edc61fc45a4871755775c495c0ab78c6ff1d8b33a7d61c1f238c044c87ce6c"), looks := false }, kinds := [], alts := [], laidByText := true, laidKinds := [.data], laidTests := true, laidLooks := .later }
def AttackerRawCardSaid : Prop := Claim7.holds Tryd.pinned (.plain (OpenSpec.ofChange attackerRawSpec)) attackerRawCard

/-- THE TIED CARD OF 'reportescrowlaw42.AttackerAll'. -/
def attackerAllCard : Claim7 := { stood := { row := attackerAllRow, standIns := [], harness := (true, "39edc61fc45a4871755775c495c0ab78c6ff1d8b33a7d61c1f238c044c87ce6c"), looks := false }, kinds := [], alts := [], laidByText := true, laidKinds := [.data], laidTests := true, laidLooks := .later }
def AttackerAllCardSaid : Prop := Claim7.holds Tryd.pinned (.plain (OpenSpec.ofChange attackerAllSpec)) attackerAllCard

/-- THE TIED CARD OF 'reportescrowlaw42.AttackerOthers'. -/
def attackerOthersCard : Claim7 := { stood := { row := attackerOthersRow, standIns := [], harness := (true, "39edc61fc45a4871755775c495c0ab78c6ff1d8b33a7d61c1f238c044c87ce6c"), looks := false }, kinds := [], alts := [], laidByText := true, laidKinds := [.data], laidTests := true, laidLooks := .later }
def AttackerOthersCardSaid : Prop := Claim7.holds Tryd.pinned (.plain (OpenSpec.ofChange attackerOthersSpec)) attackerOthersCard

/-- THE SECOND FORM's CARD OF 'reportescrowlaw42.AttackerMade'. -/
def attackerMadeUptoCard : Claim7 := { stood := { row := attackerMadeUptoRow, standIns := [], harness := (true, "39edc61fc45a4871755775c495c0ab78c6ff1d8b33a7d61c1f238c044c87ce6c"), looks := false }, kinds := [], alts := [], laidByText := true, laidKinds := [.data], laidTests := true, laidLooks := .later }
def AttackerMadeUptoCardSaid : Prop := Claim7.holds Tryd.pinned (.plain (OpenSpec.upto attackerMadeSpec)) attackerMadeUptoCard

/-- THE SECOND FORM's CARD OF 'reportescrowlaw42.AttackerRaw'. -/
def attackerRawUptoCard : Claim7 := { stood := { row := attackerRawUptoRow, standIns := [], harness := (true, "39edc61fc45a4871755775c495c0ab78c6ff1d8b33a7d61c1f238c044c87ce6c"), looks := false }, kinds := [], alts := [], laidByText := true, laidKinds := [.data], laidTests := true, laidLooks := .later }
def AttackerRawUptoCardSaid : Prop := Claim7.holds Tryd.pinned (.plain (OpenSpec.upto attackerRawSpec)) attackerRawUptoCard

/-- THE SECOND FORM's CARD OF 'reportescrowlaw42.AttackerAll'. -/
def attackerAllUptoCard : Claim7 := { stood := { row := attackerAllUptoRow, standIns := [], harness := (true, "39edc61fc45a4871755775c495c0ab78c6ff1d8b33a7d61c1f238c044c87ce6c"), looks := false }, kinds := [], alts := [], laidByText := true, laidKinds := [.data], laidTests := true, laidLooks := .later }
def AttackerAllUptoCardSaid : Prop := Claim7.holds Tryd.pinned (.plain (OpenSpec.upto attackerAllSpec)) attackerAllUptoCard

/-- THE SECOND FORM's CARD OF 'reportescrowlaw42.AttackerOthers'. -/
def attackerOthersUptoCard : Claim7 := { stood := { row := attackerOthersUptoRow, standIns := [], harness := (true, "39edc61fc45a4871755775c495c0ab78c6ff1d8b33a7d61c1f238c044c87ce6c"), looks := false }, kinds := [], alts := [], laidByText := true, laidKinds := [.data], laidTests := true, laidLooks := .later }
def AttackerOthersUptoCardSaid : Prop := Claim7.holds Tryd.pinned (.plain (OpenSpec.upto attackerOthersSpec)) attackerOthersUptoCard
end Rows
end Go.Proofs.YtjckpammcgeloaaDoor
