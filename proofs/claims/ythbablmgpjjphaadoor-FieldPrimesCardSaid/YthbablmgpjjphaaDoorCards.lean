/-
  DERIVED. GIVEN WITH THE SEED: THE CARDS: each row of YthbablmgpjjphaaDoorRows.lean that lists a variable, with what it lists TIED to the program's text (the seventh form; the later family's looks); each row that meets fmt, with fmt's text TOLD by the authors' own Lean function (tested against real Go, not proved from fmt's source: count such statements apart). THE CARD IS WHAT COUNTS. Prove the row's statement (the work); the ties are given (YthbablmgpjjphaaDoorTie.lean); close each card by the builder's one call (the guide's Derived/Test/ToyasCard.lean, 'card_holds'). Laid BY PROGRAM, IN A SANDBOX (cutbox-door.mjs). By AI agents, Wed Nov 11 2026. No macro, syntax, notation, axiom, sorry.
-/
import Derived.Test.YthbablmgpjjphaaDoorRows
import GoSem.ClaimSeven
namespace Go.Proofs.YthbablmgpjjphaaDoor
namespace Rows

/-- THE TIED CARD OF 'reportescrowlaw01.FieldLaws'. -/
def fieldLawsCard : Claim7 := { stood := { row := fieldLawsRow, standIns := [], harness := (true, "817887e2c6a0206a2524f664be8909e6f9eb24e3064196d7dbf19430f272a837"), looks := false }, kinds := [], alts := [], laidByText := true, laidKinds := [.data], laidTests := true, laidLooks := .later }
def FieldLawsCardSaid : Prop := Claim7.holds Tryd.pinned (.plain (OpenSpec.ofChange fieldLawsSpec)) fieldLawsCard

/-- THE TIED CARD OF 'reportescrowlaw01.FieldPrimes'. -/
def fieldPrimesCard : Claim7 := { stood := { row := fieldPrimesRow, standIns := [], harness := (true, "817887e2c6a0206a2524f664be8909e6f9eb24e3064196d7dbf19430f272a837"), looks := false }, kinds := [], alts := [], laidByText := true, laidKinds := [.data], laidTests := true, laidLooks := .later }
def FieldPrimesCardSaid : Prop := Claim7.holds Tryd.pinned (.plain (OpenSpec.ofChange fieldPrimesSpec)) fieldPrimesCard

/-- THE TIED CARD OF 'reportescrowlaw01.FieldInverses'. -/
def fieldInversesCard : Claim7 := { stood := { row := fieldInversesRow, standIns := [], harness := (true, "817887e2c6a0206a2524f664be8909e6f9eb24e3064196d7dbf19430f272a837"), looks := false }, kinds := [], alts := [], laidByText := true, laidKinds := [.data], laidTests := true, laidLooks := .later }
def FieldInversesCardSaid : Prop := Claim7.holds Tryd.pinned (.plain (OpenSpec.ofChange fieldInversesSpec)) fieldInversesCard

/-- THE TIED CARD OF 'reportescrowlaw01.FieldLinear'. -/
def fieldLinearCard : Claim7 := { stood := { row := fieldLinearRow, standIns := [], harness := (true, "817887e2c6a0206a2524f664be8909e6f9eb24e3064196d7dbf19430f272a837"), looks := false }, kinds := [], alts := [], laidByText := true, laidKinds := [.data], laidTests := true, laidLooks := .later }
def FieldLinearCardSaid : Prop := Claim7.holds Tryd.pinned (.plain (OpenSpec.ofChange fieldLinearSpec)) fieldLinearCard

/-- THE TIED CARD OF 'reportescrowlaw01.FieldActs'. -/
def fieldActsCard : Claim7 := { stood := { row := fieldActsRow, standIns := [], harness := (true, "817887e2c6a0206a2524f664be8909e6f9eb24e3064196d7dbf19430f272a837"), looks := false }, kinds := [], alts := [], laidByText := true, laidKinds := [.data], laidTests := true, laidLooks := .later }
def FieldActsCardSaid : Prop := Claim7.holds Tryd.pinned (.plain (OpenSpec.ofChange fieldActsSpec)) fieldActsCard

/-- THE SECOND FORM's CARD OF 'reportescrowlaw01.FieldLaws'. -/
def fieldLawsUptoCard : Claim7 := { stood := { row := fieldLawsUptoRow, standIns := [], harness := (true, "817887e2c6a0206a2524f664be8909e6f9eb24e3064196d7dbf19430f272a837"), looks := false }, kinds := [], alts := [], laidByText := true, laidKinds := [.data], laidTests := true, laidLooks := .later }
def FieldLawsUptoCardSaid : Prop := Claim7.holds Tryd.pinned (.plain (OpenSpec.upto fieldLawsSpec)) fieldLawsUptoCard

/-- THE SECOND FORM's CARD OF 'reportescrowlaw01.FieldPrimes'. -/
def fieldPrimesUptoCard : Claim7 := { stood := { row := fieldPrimesUptoRow, standIns := [], harness := (true, "817887e2c6a0206a2524f664be8909e6f9eb24e3064196d7dbf19430f272a837"), looks := false }, kinds := [], alts := [], laidByText := true, laidKinds := [.data], laidTests := true, laidLooks := .later }
def FieldPrimesUptoCardSaid : Prop := Claim7.holds Tryd.pinned (.plain (OpenSpec.upto fieldPrimesSpec)) fieldPrimesUptoCard

/-- THE SECOND FORM's CARD OF 'reportescrowlaw01.FieldInverses'. -/
def fieldInversesUptoCard : Claim7 := { stood := { row := fieldInversesUptoRow, standIns := [], harness := (true, "817887e2c6a0206a2524f664be8909e6f9eb24e3064196d7dbf19430f272a837"), looks := false }, kinds := [], alts := [], laidByText := true, laidKinds := [.data], laidTests := true, laidLooks := .later }
def FieldInversesUptoCardSaid : Prop := Claim7.holds Tryd.pinned (.plain (OpenSpec.upto fieldInversesSpec)) fieldInversesUptoCard

/-- THE SECOND FORM's CARD OF 'reportescrowlaw01.FieldLinear'. -/
def fieldLinearUptoCard : Claim7 := { stood := { row := fieldLinearUptoRow, standIns := [], harness := (true, "817887e2c6a0206a2524f664be8909e6f9eb24e3064196d7dbf19430f272a837"), looks := false }, kinds := [], alts := [], laidByText := true, laidKinds := [.data], laidTests := true, laidLooks := .later }
def FieldLinearUptoCardSaid : Prop := Claim7.holds Tryd.pinned (.plain (OpenSpec.upto fieldLinearSpec)) fieldLinearUptoCard

/-- THE SECOND FORM's CARD OF 'reportescrowlaw01.FieldActs'. -/
def fieldActsUptoCard : Claim7 := { stood := { row := fieldActsUptoRow, standIns := [], harness := (true, "817887e2c6a0206a2524f664be8909e6f9eb24e3064196d7dbf19430f272a837"), looks := false }, kinds := [], alts := [], laidByText := true, laidKinds := [.data], laidTests := true, laidLooks := .later }
def FieldActsUptoCardSaid : Prop := Claim7.holds Tryd.pinned (.plain (OpenSpec.upto fieldActsSpec)) fieldActsUptoCard
end Rows
end Go.Proofs.YthbablmgpjjphaaDoor
