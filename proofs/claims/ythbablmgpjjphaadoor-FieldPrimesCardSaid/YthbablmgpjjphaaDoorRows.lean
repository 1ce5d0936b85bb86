/-
  NARROWER THAN 'FOR EVERY INPUT', by the rows' own cells (each row's printed sentence says how): FieldLaws: laid · FieldPrimes: laid · FieldInverses: laid · FieldLinear: laid · FieldActs: laid.
  DERIVED. THE GIVEN ROWS OF THIS SEAT. 5 by the template 'for every input the law returns true; each argument reads behind the call as it read before'; 0 by the template 'total and deterministic' (their statements: YthbablmgpjjphaaDoorTotals.lean).
  GIVEN WITH THE SEED: the statements are not yours to turn. If you find one false, say at which input.
  Laid BY PROGRAM, IN A SANDBOX (cutbox-rows.mjs): the forced cells as the released guide's own fill.sh prints them over the translation c59f7d851889f698… (all of the seat's roots in one cut). By AI agents, Wed Nov 11 2026. No macro, syntax, notation, axiom, sorry.
-/
import Derived.Test.YthbablmgpjjphaaDoorChecked
import GoSem.Claim
import GoSem.ClaimJoined
import GoSem.ClaimMapViews
import Derived.JoinedTies
import Derived.KernelRfl
namespace Go.Proofs.YthbablmgpjjphaaDoor
/- THE CELL 'sum', in the pinned program and in every row, IS THE sha256 OF THE DUMP (.gsa) THAT YthbablmgpjjphaaDoorProg.lean LOADS. Nothing in Lean hashes anything: it is a label: what it is worth is what the hold of that sum in a sandbox is worth. -/
noncomputable def Tryd.pinned : Pinned := { name := "ythbablmgpjjphaadoor", sum := "c59f7d851889f6988215de259d3940fb26630b1afc797aa6ab4f7c7ab5fc283e", checked := Tryd.checked }
namespace Rows
def none {H : Type} : Left H := { results := [], args := [] }

/- WHAT THE LISTED PACKAGE-LEVEL VARIABLES READ AS WHEN THE CALL BEGINS. Each datum BY PROGRAM (the guide's laid-datum.mjs) off the statement by which the dump's own 'gosem.cut.vars' lays the variable. In a bare row this is a premise. The card (YthbablmgpjjphaaDoorCards.lean) ties it to the program's text. -/
def laid_reportescrow_field_bases {H : Type} : DataW H := .agg [.lit (.int .i64 2), .lit (.int .i64 3), .lit (.int .i64 5), .lit (.int .i64 7)]

/-- 'reportescrowlaw01.FieldLaws': WHATEVER THE INPUT: true; the input reads as it did. -/
def fieldLawsSpec : ChangeSpec := { name := "fieldLaws", fn := fun _ => fun
  | [d1, d2, d3, d4] => { results := [.lit (.bool true)], args := [d1, d2, d3, d4] }
  | _ => none }
def fieldLawsRow : OpenClaim := { program := "ythbablmgpjjphaadoor", sum := "c59f7d851889f6988215de259d3940fb26630b1afc797aa6ab4f7c7ab5fc283e", func := "reportescrow/reportescrowlaw01.FieldLaws", spec := "fieldLaws", named := ["reportescrow/field.bases"], apart := false, laid := [("reportescrow/field.bases", laid_reportescrow_field_bases)] }
def FieldLawsSaid : Prop := fieldLawsRow.holds Tryd.pinned (OpenSpec.ofChange fieldLawsSpec)

/-- ITS FALSE NEIGHBOUR: 'it returns false'. Refute it at one input. -/
def fieldLawsWrong : ChangeSpec := { name := "fieldLaws", fn := fun _ => fun
  | [d1, d2, d3, d4] => { results := [.lit (.bool false)], args := [d1, d2, d3, d4] }
  | _ => none }
def FieldLawsWrongFalsely : Prop := fieldLawsRow.holds Tryd.pinned (OpenSpec.ofChange fieldLawsWrong)

/-- 'reportescrowlaw01.FieldPrimes': WHATEVER THE INPUT: true; the input reads as it did. -/
def fieldPrimesSpec : ChangeSpec := { name := "fieldPrimes", fn := fun _ => fun
  | [d1, d2] => { results := [.lit (.bool true)], args := [d1, d2] }
  | _ => none }
def fieldPrimesRow : OpenClaim := { program := "ythbablmgpjjphaadoor", sum := "c59f7d851889f6988215de259d3940fb26630b1afc797aa6ab4f7c7ab5fc283e", func := "reportescrow/reportescrowlaw01.FieldPrimes", spec := "fieldPrimes", named := ["reportescrow/field.bases"], apart := false, laid := [("reportescrow/field.bases", laid_reportescrow_field_bases)] }
def FieldPrimesSaid : Prop := fieldPrimesRow.holds Tryd.pinned (OpenSpec.ofChange fieldPrimesSpec)

/-- ITS FALSE NEIGHBOUR: 'it returns false'. Refute it at one input. -/
def fieldPrimesWrong : ChangeSpec := { name := "fieldPrimes", fn := fun _ => fun
  | [d1, d2] => { results := [.lit (.bool false)], args := [d1, d2] }
  | _ => none }
def FieldPrimesWrongFalsely : Prop := fieldPrimesRow.holds Tryd.pinned (OpenSpec.ofChange fieldPrimesWrong)

/-- 'reportescrowlaw01.FieldInverses': WHATEVER THE INPUT: true; the input reads as it did. -/
def fieldInversesSpec : ChangeSpec := { name := "fieldInverses", fn := fun _ => fun
  | [d1, d2, d3, d4] => { results := [.lit (.bool true)], args := [d1, d2, d3, d4] }
  | _ => none }
def fieldInversesRow : OpenClaim := { program := "ythbablmgpjjphaadoor", sum := "c59f7d851889f6988215de259d3940fb26630b1afc797aa6ab4f7c7ab5fc283e", func := "reportescrow/reportescrowlaw01.FieldInverses", spec := "fieldInverses", named := ["reportescrow/field.bases"], apart := false, laid := [("reportescrow/field.bases", laid_reportescrow_field_bases)] }
def FieldInversesSaid : Prop := fieldInversesRow.holds Tryd.pinned (OpenSpec.ofChange fieldInversesSpec)

/-- ITS FALSE NEIGHBOUR: 'it returns false'. Refute it at one input. -/
def fieldInversesWrong : ChangeSpec := { name := "fieldInverses", fn := fun _ => fun
  | [d1, d2, d3, d4] => { results := [.lit (.bool false)], args := [d1, d2, d3, d4] }
  | _ => none }
def FieldInversesWrongFalsely : Prop := fieldInversesRow.holds Tryd.pinned (OpenSpec.ofChange fieldInversesWrong)

/-- 'reportescrowlaw01.FieldLinear': WHATEVER THE INPUT: true; the input reads as it did. -/
def fieldLinearSpec : ChangeSpec := { name := "fieldLinear", fn := fun _ => fun
  | [d1, d2] => { results := [.lit (.bool true)], args := [d1, d2] }
  | _ => none }
def fieldLinearRow : OpenClaim := { program := "ythbablmgpjjphaadoor", sum := "c59f7d851889f6988215de259d3940fb26630b1afc797aa6ab4f7c7ab5fc283e", func := "reportescrow/reportescrowlaw01.FieldLinear", spec := "fieldLinear", named := ["reportescrow/field.bases"], apart := false, laid := [("reportescrow/field.bases", laid_reportescrow_field_bases)] }
def FieldLinearSaid : Prop := fieldLinearRow.holds Tryd.pinned (OpenSpec.ofChange fieldLinearSpec)

/-- ITS FALSE NEIGHBOUR: 'it returns false'. Refute it at one input. -/
def fieldLinearWrong : ChangeSpec := { name := "fieldLinear", fn := fun _ => fun
  | [d1, d2] => { results := [.lit (.bool false)], args := [d1, d2] }
  | _ => none }
def FieldLinearWrongFalsely : Prop := fieldLinearRow.holds Tryd.pinned (OpenSpec.ofChange fieldLinearWrong)

/-- 'reportescrowlaw01.FieldActs': WHATEVER THE INPUT: true; the input reads as it did. -/
def fieldActsSpec : ChangeSpec := { name := "fieldActs", fn := fun _ => fun
  | [d1, d2, d3, d4, d5, d6] => { results := [.lit (.bool true)], args := [d1, d2, d3, d4, d5, d6] }
  | _ => none }
def fieldActsRow : OpenClaim := { program := "ythbablmgpjjphaadoor", sum := "c59f7d851889f6988215de259d3940fb26630b1afc797aa6ab4f7c7ab5fc283e", func := "reportescrow/reportescrowlaw01.FieldActs", spec := "fieldActs", named := ["reportescrow/field.bases"], apart := false, laid := [("reportescrow/field.bases", laid_reportescrow_field_bases)] }
def FieldActsSaid : Prop := fieldActsRow.holds Tryd.pinned (OpenSpec.ofChange fieldActsSpec)

/-- ITS FALSE NEIGHBOUR: 'it returns false'. Refute it at one input. -/
def fieldActsWrong : ChangeSpec := { name := "fieldActs", fn := fun _ => fun
  | [d1, d2, d3, d4, d5, d6] => { results := [.lit (.bool false)], args := [d1, d2, d3, d4, d5, d6] }
  | _ => none }
def FieldActsWrongFalsely : Prop := fieldActsRow.holds Tryd.pinned (OpenSpec.ofChange fieldActsWrong)

/- THE SECOND FORM. 'bulk': how many values and letters a reading holds, each counted each time it is reached (what is shared counts as often as it is met; a slice's spare places count too). A statement '..UptoSaid' is the law's where the arguments, and the package variables that the reading takes, are together of bulk at most 1048576: NARROWER than '..Said'. Prove '..Said' where nothing that the law and all that it calls make is longer than what came in: it says more and counts as full. Else prove '..UptoSaid'. A law counts once. -/
mutual
def uptoBulk {H : Type} : DataW H → Nat
  | .lit (.string bytes) => bytes.length + 1
  | .lit _ => 1
  | .nil => 1
  | .ptr d => uptoBulk d + 1
  | .slice elems spare => uptoBulkAll elems + uptoBulkAll spare + 1
  | .agg parts => uptoBulkAll parts + 1
  | .iface _ d => uptoBulk d + 1
  | .map entries => uptoBulkEntries entries + 1
  | .held _ => 1
def uptoBulkAll {H : Type} : List (DataW H) → Nat
  | [] => 0
  | d :: r => uptoBulk d + uptoBulkAll r
def uptoBulkEntries {H : Type} : List (Lit × DataW H) → Nat
  | [] => 0
  | x :: r => uptoBulkEntry x + uptoBulkEntries r
def uptoBulkEntry {H : Type} : Lit × DataW H → Nat
  | (.string bytes, d) => bytes.length + uptoBulk d + 1
  | (_, d) => uptoBulk d + 1
 end
def uptoSmall : (H : Type) → List (DataW H) → Bool := fun _ ds => decide (uptoBulkAll ds ≤ 1048576)
def OpenSpec.upto (s : _root_.Go.ChangeSpec) : _root_.Go.OpenSpec := { _root_.Go.OpenSpec.ofChange s with cond := some uptoSmall }

/-- 'reportescrowlaw01.FieldLaws', WHERE WHAT IT READS IS OF BULK AT MOST 1048576: true; the input reads as it did. -/
def fieldLawsUptoRow : OpenClaim := { program := "ythbablmgpjjphaadoor", sum := "c59f7d851889f6988215de259d3940fb26630b1afc797aa6ab4f7c7ab5fc283e", func := "reportescrow/reportescrowlaw01.FieldLaws", spec := "fieldLaws", named := ["reportescrow/field.bases"], apart := false, laid := [("reportescrow/field.bases", laid_reportescrow_field_bases)], narrowed := true }
def FieldLawsUptoSaid : Prop := fieldLawsUptoRow.holds Tryd.pinned (OpenSpec.upto fieldLawsSpec)

/-- 'reportescrowlaw01.FieldPrimes', WHERE WHAT IT READS IS OF BULK AT MOST 1048576: true; the input reads as it did. -/
def fieldPrimesUptoRow : OpenClaim := { program := "ythbablmgpjjphaadoor", sum := "c59f7d851889f6988215de259d3940fb26630b1afc797aa6ab4f7c7ab5fc283e", func := "reportescrow/reportescrowlaw01.FieldPrimes", spec := "fieldPrimes", named := ["reportescrow/field.bases"], apart := false, laid := [("reportescrow/field.bases", laid_reportescrow_field_bases)], narrowed := true }
def FieldPrimesUptoSaid : Prop := fieldPrimesUptoRow.holds Tryd.pinned (OpenSpec.upto fieldPrimesSpec)

/-- 'reportescrowlaw01.FieldInverses', WHERE WHAT IT READS IS OF BULK AT MOST 1048576: true; the input reads as it did. -/
def fieldInversesUptoRow : OpenClaim := { program := "ythbablmgpjjphaadoor", sum := "c59f7d851889f6988215de259d3940fb26630b1afc797aa6ab4f7c7ab5fc283e", func := "reportescrow/reportescrowlaw01.FieldInverses", spec := "fieldInverses", named := ["reportescrow/field.bases"], apart := false, laid := [("reportescrow/field.bases", laid_reportescrow_field_bases)], narrowed := true }
def FieldInversesUptoSaid : Prop := fieldInversesUptoRow.holds Tryd.pinned (OpenSpec.upto fieldInversesSpec)

/-- 'reportescrowlaw01.FieldLinear', WHERE WHAT IT READS IS OF BULK AT MOST 1048576: true; the input reads as it did. -/
def fieldLinearUptoRow : OpenClaim := { program := "ythbablmgpjjphaadoor", sum := "c59f7d851889f6988215de259d3940fb26630b1afc797aa6ab4f7c7ab5fc283e", func := "reportescrow/reportescrowlaw01.FieldLinear", spec := "fieldLinear", named := ["reportescrow/field.bases"], apart := false, laid := [("reportescrow/field.bases", laid_reportescrow_field_bases)], narrowed := true }
def FieldLinearUptoSaid : Prop := fieldLinearUptoRow.holds Tryd.pinned (OpenSpec.upto fieldLinearSpec)

/-- 'reportescrowlaw01.FieldActs', WHERE WHAT IT READS IS OF BULK AT MOST 1048576: true; the input reads as it did. -/
def fieldActsUptoRow : OpenClaim := { program := "ythbablmgpjjphaadoor", sum := "c59f7d851889f6988215de259d3940fb26630b1afc797aa6ab4f7c7ab5fc283e", func := "reportescrow/reportescrowlaw01.FieldActs", spec := "fieldActs", named := ["reportescrow/field.bases"], apart := false, laid := [("reportescrow/field.bases", laid_reportescrow_field_bases)], narrowed := true }
def FieldActsUptoSaid : Prop := fieldActsUptoRow.holds Tryd.pinned (OpenSpec.upto fieldActsSpec)

end Rows
end Go.Proofs.YthbablmgpjjphaaDoor
