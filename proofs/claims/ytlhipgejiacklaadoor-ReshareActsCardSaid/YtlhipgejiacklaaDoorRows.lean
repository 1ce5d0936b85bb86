/-
  NARROWER THAN 'FOR EVERY INPUT', by the rows' own cells (each row's printed sentence says how): RefreshKeeps: laid · RefreshOrders: laid · RefreshMixes: laid · RefreshOld: laid · RefreshActs: laid · ReshareActs: laid · ReshareMoves: laid · ReshareParts: laid · ReshareBack: laid · ReshareHides: laid.
  DERIVED. THE GIVEN ROWS OF THIS SEAT. 10 by the template 'for every input the law returns true; each argument reads behind the call as it read before'; 0 by the template 'total and deterministic' (their statements: YtlhipgejiacklaaDoorTotals.lean).
  GIVEN WITH THE SEED: the statements are not yours to turn. If you find one false, say at which input.
  Laid BY PROGRAM, IN A SANDBOX (cutbox-rows.mjs): the forced cells as the released guide's own fill.sh prints them over the translation f4b75fdaf7aeff94… (all of the seat's roots in one cut). By AI agents, Wed Nov 11 2026. No macro, syntax, notation, axiom, sorry.
-/
import Derived.Test.YtlhipgejiacklaaDoorChecked
import GoSem.Claim
import GoSem.ClaimJoined
import GoSem.ClaimMapViews
import Derived.JoinedTies
import Derived.KernelRfl
namespace Go.Proofs.YtlhipgejiacklaaDoor
/- THE CELL 'sum', in the pinned program and in every row, IS THE sha256 OF THE DUMP (.gsa) THAT YtlhipgejiacklaaDoorProg.lean LOADS. Nothing in Lean hashes anything: it is a label: what it is worth is what the hold of that sum in a sandbox is worth. -/
noncomputable def Tryd.pinned : Pinned := { name := "ytlhipgejiacklaadoor", sum := "f4b75fdaf7aeff94bbb7f23df02ef374b19523bf2e3256435e6f81be0f15b991", checked := Tryd.checked }
namespace Rows
def none {H : Type} : Left H := { results := [], args := [] }

/- WHAT THE LISTED PACKAGE-LEVEL VARIABLES READ AS WHEN THE CALL BEGINS. Each datum BY PROGRAM (the guide's laid-datum.mjs) off the statement by which the dump's own 'gosem.cut.vars' lays the variable. In a bare row this is a premise. The card (YtlhipgejiacklaaDoorCards.lean) ties it to the program's text. -/
def laid_reportescrow_field_bases {H : Type} : DataW H := .agg [.lit (.int .i64 2), .lit (.int .i64 3), .lit (.int .i64 5), .lit (.int .i64 7)]

/-- 'reportescrowlaw08.RefreshKeeps': WHATEVER THE INPUT: true; the input reads as it did. -/
def refreshKeepsSpec : ChangeSpec := { name := "refreshKeeps", fn := fun _ => fun
  | [d] => { results := [.lit (.bool true)], args := [d] }
  | _ => none }
def refreshKeepsRow : OpenClaim := { program := "ytlhipgejiacklaadoor", sum := "f4b75fdaf7aeff94bbb7f23df02ef374b19523bf2e3256435e6f81be0f15b991", func := "reportescrow/reportescrowlaw08.RefreshKeeps", spec := "refreshKeeps", unfollowed := true, recurses := true, named := ["reportescrow/field.bases"], apart := false, laid := [("reportescrow/field.bases", laid_reportescrow_field_bases)] }
def RefreshKeepsSaid : Prop := refreshKeepsRow.holds Tryd.pinned (OpenSpec.ofChange refreshKeepsSpec)

/-- ITS FALSE NEIGHBOUR: 'it returns false'. Refute it at one input. -/
def refreshKeepsWrong : ChangeSpec := { name := "refreshKeeps", fn := fun _ => fun
  | [d] => { results := [.lit (.bool false)], args := [d] }
  | _ => none }
def RefreshKeepsWrongFalsely : Prop := refreshKeepsRow.holds Tryd.pinned (OpenSpec.ofChange refreshKeepsWrong)

/-- 'reportescrowlaw08.RefreshOrders': WHATEVER THE INPUT: true; the input reads as it did. -/
def refreshOrdersSpec : ChangeSpec := { name := "refreshOrders", fn := fun _ => fun
  | [d] => { results := [.lit (.bool true)], args := [d] }
  | _ => none }
def refreshOrdersRow : OpenClaim := { program := "ytlhipgejiacklaadoor", sum := "f4b75fdaf7aeff94bbb7f23df02ef374b19523bf2e3256435e6f81be0f15b991", func := "reportescrow/reportescrowlaw08.RefreshOrders", spec := "refreshOrders", unfollowed := true, recurses := true, named := ["reportescrow/field.bases"], apart := false, laid := [("reportescrow/field.bases", laid_reportescrow_field_bases)] }
def RefreshOrdersSaid : Prop := refreshOrdersRow.holds Tryd.pinned (OpenSpec.ofChange refreshOrdersSpec)

/-- ITS FALSE NEIGHBOUR: 'it returns false'. Refute it at one input. -/
def refreshOrdersWrong : ChangeSpec := { name := "refreshOrders", fn := fun _ => fun
  | [d] => { results := [.lit (.bool false)], args := [d] }
  | _ => none }
def RefreshOrdersWrongFalsely : Prop := refreshOrdersRow.holds Tryd.pinned (OpenSpec.ofChange refreshOrdersWrong)

/-- 'reportescrowlaw08.RefreshMixes': WHATEVER THE INPUT: true; the input reads as it did. -/
def refreshMixesSpec : ChangeSpec := { name := "refreshMixes", fn := fun _ => fun
  | [d] => { results := [.lit (.bool true)], args := [d] }
  | _ => none }
def refreshMixesRow : OpenClaim := { program := "ytlhipgejiacklaadoor", sum := "f4b75fdaf7aeff94bbb7f23df02ef374b19523bf2e3256435e6f81be0f15b991", func := "reportescrow/reportescrowlaw08.RefreshMixes", spec := "refreshMixes", unfollowed := true, recurses := true, named := ["reportescrow/field.bases"], apart := false, laid := [("reportescrow/field.bases", laid_reportescrow_field_bases)] }
def RefreshMixesSaid : Prop := refreshMixesRow.holds Tryd.pinned (OpenSpec.ofChange refreshMixesSpec)

/-- ITS FALSE NEIGHBOUR: 'it returns false'. Refute it at one input. -/
def refreshMixesWrong : ChangeSpec := { name := "refreshMixes", fn := fun _ => fun
  | [d] => { results := [.lit (.bool false)], args := [d] }
  | _ => none }
def RefreshMixesWrongFalsely : Prop := refreshMixesRow.holds Tryd.pinned (OpenSpec.ofChange refreshMixesWrong)

/-- 'reportescrowlaw08.RefreshOld': WHATEVER THE INPUT: true; the input reads as it did. -/
def refreshOldSpec : ChangeSpec := { name := "refreshOld", fn := fun _ => fun
  | [d1, d2] => { results := [.lit (.bool true)], args := [d1, d2] }
  | _ => none }
def refreshOldRow : OpenClaim := { program := "ytlhipgejiacklaadoor", sum := "f4b75fdaf7aeff94bbb7f23df02ef374b19523bf2e3256435e6f81be0f15b991", func := "reportescrow/reportescrowlaw08.RefreshOld", spec := "refreshOld", unfollowed := true, recurses := true, named := ["reportescrow/field.bases"], apart := false, laid := [("reportescrow/field.bases", laid_reportescrow_field_bases)] }
def RefreshOldSaid : Prop := refreshOldRow.holds Tryd.pinned (OpenSpec.ofChange refreshOldSpec)

/-- ITS FALSE NEIGHBOUR: 'it returns false'. Refute it at one input. -/
def refreshOldWrong : ChangeSpec := { name := "refreshOld", fn := fun _ => fun
  | [d1, d2] => { results := [.lit (.bool false)], args := [d1, d2] }
  | _ => none }
def RefreshOldWrongFalsely : Prop := refreshOldRow.holds Tryd.pinned (OpenSpec.ofChange refreshOldWrong)

/-- 'reportescrowlaw08.RefreshActs': WHATEVER THE INPUT: true; the input reads as it did. -/
def refreshActsSpec : ChangeSpec := { name := "refreshActs", fn := fun _ => fun
  | [d1, d2, d3, d4] => { results := [.lit (.bool true)], args := [d1, d2, d3, d4] }
  | _ => none }
def refreshActsRow : OpenClaim := { program := "ytlhipgejiacklaadoor", sum := "f4b75fdaf7aeff94bbb7f23df02ef374b19523bf2e3256435e6f81be0f15b991", func := "reportescrow/reportescrowlaw08.RefreshActs", spec := "refreshActs", unfollowed := true, recurses := true, named := ["reportescrow/field.bases"], apart := false, laid := [("reportescrow/field.bases", laid_reportescrow_field_bases)] }
def RefreshActsSaid : Prop := refreshActsRow.holds Tryd.pinned (OpenSpec.ofChange refreshActsSpec)

/-- ITS FALSE NEIGHBOUR: 'it returns false'. Refute it at one input. -/
def refreshActsWrong : ChangeSpec := { name := "refreshActs", fn := fun _ => fun
  | [d1, d2, d3, d4] => { results := [.lit (.bool false)], args := [d1, d2, d3, d4] }
  | _ => none }
def RefreshActsWrongFalsely : Prop := refreshActsRow.holds Tryd.pinned (OpenSpec.ofChange refreshActsWrong)

/-- 'reportescrowlaw09.ReshareActs': WHATEVER THE INPUT: true; the input reads as it did. -/
def reshareActsSpec : ChangeSpec := { name := "reshareActs", fn := fun _ => fun
  | [d1, d2, d3, d4] => { results := [.lit (.bool true)], args := [d1, d2, d3, d4] }
  | _ => none }
def reshareActsRow : OpenClaim := { program := "ytlhipgejiacklaadoor", sum := "f4b75fdaf7aeff94bbb7f23df02ef374b19523bf2e3256435e6f81be0f15b991", func := "reportescrow/reportescrowlaw09.ReshareActs", spec := "reshareActs", unfollowed := true, recurses := true, named := ["reportescrow/field.bases"], apart := false, laid := [("reportescrow/field.bases", laid_reportescrow_field_bases)] }
def ReshareActsSaid : Prop := reshareActsRow.holds Tryd.pinned (OpenSpec.ofChange reshareActsSpec)

/-- ITS FALSE NEIGHBOUR: 'it returns false'. Refute it at one input. -/
def reshareActsWrong : ChangeSpec := { name := "reshareActs", fn := fun _ => fun
  | [d1, d2, d3, d4] => { results := [.lit (.bool false)], args := [d1, d2, d3, d4] }
  | _ => none }
def ReshareActsWrongFalsely : Prop := reshareActsRow.holds Tryd.pinned (OpenSpec.ofChange reshareActsWrong)

/-- 'reportescrowlaw09.ReshareMoves': WHATEVER THE INPUT: true; the input reads as it did. -/
def reshareMovesSpec : ChangeSpec := { name := "reshareMoves", fn := fun _ => fun
  | [d] => { results := [.lit (.bool true)], args := [d] }
  | _ => none }
def reshareMovesRow : OpenClaim := { program := "ytlhipgejiacklaadoor", sum := "f4b75fdaf7aeff94bbb7f23df02ef374b19523bf2e3256435e6f81be0f15b991", func := "reportescrow/reportescrowlaw09.ReshareMoves", spec := "reshareMoves", unfollowed := true, recurses := true, named := ["reportescrow/field.bases"], apart := false, laid := [("reportescrow/field.bases", laid_reportescrow_field_bases)] }
def ReshareMovesSaid : Prop := reshareMovesRow.holds Tryd.pinned (OpenSpec.ofChange reshareMovesSpec)

/-- ITS FALSE NEIGHBOUR: 'it returns false'. Refute it at one input. -/
def reshareMovesWrong : ChangeSpec := { name := "reshareMoves", fn := fun _ => fun
  | [d] => { results := [.lit (.bool false)], args := [d] }
  | _ => none }
def ReshareMovesWrongFalsely : Prop := reshareMovesRow.holds Tryd.pinned (OpenSpec.ofChange reshareMovesWrong)

/-- 'reportescrowlaw09.ReshareParts': WHATEVER THE INPUT: true; the input reads as it did. -/
def resharePartsSpec : ChangeSpec := { name := "reshareParts", fn := fun _ => fun
  | [d1, d2] => { results := [.lit (.bool true)], args := [d1, d2] }
  | _ => none }
def resharePartsRow : OpenClaim := { program := "ytlhipgejiacklaadoor", sum := "f4b75fdaf7aeff94bbb7f23df02ef374b19523bf2e3256435e6f81be0f15b991", func := "reportescrow/reportescrowlaw09.ReshareParts", spec := "reshareParts", unfollowed := true, recurses := true, named := ["reportescrow/field.bases"], apart := false, laid := [("reportescrow/field.bases", laid_reportescrow_field_bases)] }
def ResharePartsSaid : Prop := resharePartsRow.holds Tryd.pinned (OpenSpec.ofChange resharePartsSpec)

/-- ITS FALSE NEIGHBOUR: 'it returns false'. Refute it at one input. -/
def resharePartsWrong : ChangeSpec := { name := "reshareParts", fn := fun _ => fun
  | [d1, d2] => { results := [.lit (.bool false)], args := [d1, d2] }
  | _ => none }
def ResharePartsWrongFalsely : Prop := resharePartsRow.holds Tryd.pinned (OpenSpec.ofChange resharePartsWrong)

/-- 'reportescrowlaw09.ReshareBack': WHATEVER THE INPUT: true; the input reads as it did. -/
def reshareBackSpec : ChangeSpec := { name := "reshareBack", fn := fun _ => fun
  | [d] => { results := [.lit (.bool true)], args := [d] }
  | _ => none }
def reshareBackRow : OpenClaim := { program := "ytlhipgejiacklaadoor", sum := "f4b75fdaf7aeff94bbb7f23df02ef374b19523bf2e3256435e6f81be0f15b991", func := "reportescrow/reportescrowlaw09.ReshareBack", spec := "reshareBack", unfollowed := true, recurses := true, named := ["reportescrow/field.bases"], apart := false, laid := [("reportescrow/field.bases", laid_reportescrow_field_bases)] }
def ReshareBackSaid : Prop := reshareBackRow.holds Tryd.pinned (OpenSpec.ofChange reshareBackSpec)

/-- ITS FALSE NEIGHBOUR: 'it returns false'. Refute it at one input. -/
def reshareBackWrong : ChangeSpec := { name := "reshareBack", fn := fun _ => fun
  | [d] => { results := [.lit (.bool false)], args := [d] }
  | _ => none }
def ReshareBackWrongFalsely : Prop := reshareBackRow.holds Tryd.pinned (OpenSpec.ofChange reshareBackWrong)

/-- 'reportescrowlaw09.ReshareHides': WHATEVER THE INPUT: true; the input reads as it did. -/
def reshareHidesSpec : ChangeSpec := { name := "reshareHides", fn := fun _ => fun
  | [d] => { results := [.lit (.bool true)], args := [d] }
  | _ => none }
def reshareHidesRow : OpenClaim := { program := "ytlhipgejiacklaadoor", sum := "f4b75fdaf7aeff94bbb7f23df02ef374b19523bf2e3256435e6f81be0f15b991", func := "reportescrow/reportescrowlaw09.ReshareHides", spec := "reshareHides", unfollowed := true, recurses := true, named := ["reportescrow/field.bases"], apart := false, laid := [("reportescrow/field.bases", laid_reportescrow_field_bases)] }
def ReshareHidesSaid : Prop := reshareHidesRow.holds Tryd.pinned (OpenSpec.ofChange reshareHidesSpec)

/-- ITS FALSE NEIGHBOUR: 'it returns false'. Refute it at one input. -/
def reshareHidesWrong : ChangeSpec := { name := "reshareHides", fn := fun _ => fun
  | [d] => { results := [.lit (.bool false)], args := [d] }
  | _ => none }
def ReshareHidesWrongFalsely : Prop := reshareHidesRow.holds Tryd.pinned (OpenSpec.ofChange reshareHidesWrong)

/- THE SECOND FORM. 'bulk': how many values and letters a reading holds, each counted each time it is reached (what is shared counts as often as it is met; a slice's spare places count too). A statement '..UptoSaid' is the law's where the arguments, and the package variables that the reading takes, are together of bulk at most 1048576: NARROWER than '..Said'. Prove '..Said' where nothing that the law and all that it calls make is longer than what came in: it says more and counts as full. Else prove '..UptoSaid'. A law counts once. -/
mutual
def uptoBulk {H : Type} : DataW H → Nat
  | .lit (.string bytes) => bytes.length + 1
  | .lit _ => 1
  | .nil => 1
  | .ptr d => uptoBulk d + 1
  | .slice elems spare => uptoBulkAll elems + uptoBulkAll spare + 1
  | .agg parts => uptoBulkAll parts + 1
  | .iface _ d => uptoBulk d + 1
  | .map entries => uptoBulkEntries entries + 1
  | .held _ => 1
def uptoBulkAll {H : Type} : List (DataW H) → Nat
  | [] => 0
  | d :: r => uptoBulk d + uptoBulkAll r
def uptoBulkEntries {H : Type} : List (Lit × DataW H) → Nat
  | [] => 0
  | x :: r => uptoBulkEntry x + uptoBulkEntries r
def uptoBulkEntry {H : Type} : Lit × DataW H → Nat
  | (.string bytes, d) => bytes.length + uptoBulk d + 1
  | (_, d) => uptoBulk d + 1
 end
def uptoSmall : (H : Type) → List (DataW H) → Bool := fun _ ds => decide (uptoBulkAll ds ≤ 1048576)
def OpenSpec.upto (s : _root_.Go.ChangeSpec) : _root_.Go.OpenSpec := { _root_.Go.OpenSpec.ofChange s with cond := some uptoSmall }

/-- 'reportescrowlaw08.RefreshKeeps', WHERE WHAT IT READS IS OF BULK AT MOST 1048576: true; the input reads as it did. -/
def refreshKeepsUptoRow : OpenClaim := { program := "ytlhipgejiacklaadoor", sum := "f4b75fdaf7aeff94bbb7f23df02ef374b19523bf2e3256435e6f81be0f15b991", func := "reportescrow/reportescrowlaw08.RefreshKeeps", spec := "refreshKeeps", unfollowed := true, recurses := true, named := ["reportescrow/field.bases"], apart := false, laid := [("reportescrow/field.bases", laid_reportescrow_field_bases)], narrowed := true }
def RefreshKeepsUptoSaid : Prop := refreshKeepsUptoRow.holds Tryd.pinned (OpenSpec.upto refreshKeepsSpec)

/-- 'reportescrowlaw08.RefreshOrders', WHERE WHAT IT READS IS OF BULK AT MOST 1048576: true; the input reads as it did. -/
def refreshOrdersUptoRow : OpenClaim := { program := "ytlhipgejiacklaadoor", sum := "f4b75fdaf7aeff94bbb7f23df02ef374b19523bf2e3256435e6f81be0f15b991", func := "reportescrow/reportescrowlaw08.RefreshOrders", spec := "refreshOrders", unfollowed := true, recurses := true, named := ["reportescrow/field.bases"], apart := false, laid := [("reportescrow/field.bases", laid_reportescrow_field_bases)], narrowed := true }
def RefreshOrdersUptoSaid : Prop := refreshOrdersUptoRow.holds Tryd.pinned (OpenSpec.upto refreshOrdersSpec)

/-- 'reportescrowlaw08.RefreshMixes', WHERE WHAT IT READS IS OF BULK AT MOST 1048576: true; the input reads as it did. -/
def refreshMixesUptoRow : OpenClaim := { program := "ytlhipgejiacklaadoor", sum := "f4b75fdaf7aeff94bbb7f23df02ef374b19523bf2e3256435e6f81be0f15b991", func := "reportescrow/reportescrowlaw08.RefreshMixes", spec := "refreshMixes", unfollowed := true, recurses := true, named := ["reportescrow/field.bases"], apart := false, laid := [("reportescrow/field.bases", laid_reportescrow_field_bases)], narrowed := true }
def RefreshMixesUptoSaid : Prop := refreshMixesUptoRow.holds Tryd.pinned (OpenSpec.upto refreshMixesSpec)

/-- 'reportescrowlaw08.RefreshOld', WHERE WHAT IT READS IS OF BULK AT MOST 1048576: true; the input reads as it did. -/
def refreshOldUptoRow : OpenClaim := { program := "ytlhipgejiacklaadoor", sum := "f4b75fdaf7aeff94bbb7f23df02ef374b19523bf2e3256435e6f81be0f15b991", func := "reportescrow/reportescrowlaw08.RefreshOld", spec := "refreshOld", unfollowed := true, recurses := true, named := ["reportescrow/field.bases"], apart := false, laid := [("reportescrow/field.bases", laid_reportescrow_field_bases)], narrowed := true }
def RefreshOldUptoSaid : Prop := refreshOldUptoRow.holds Tryd.pinned (OpenSpec.upto refreshOldSpec)

/-- 'reportescrowlaw08.RefreshActs', WHERE WHAT IT READS IS OF BULK AT MOST 1048576: true; the input reads as it did. -/
def refreshActsUptoRow : OpenClaim := { program := "ytlhipgejiacklaadoor", sum := "f4b75fdaf7aeff94bbb7f23df02ef374b19523bf2e3256435e6f81be0f15b991", func := "reportescrow/reportescrowlaw08.RefreshActs", spec := "refreshActs", unfollowed := true, recurses := true, named := ["reportescrow/field.bases"], apart := false, laid := [("reportescrow/field.bases", laid_reportescrow_field_bases)], narrowed := true }
def RefreshActsUptoSaid : Prop := refreshActsUptoRow.holds Tryd.pinned (OpenSpec.upto refreshActsSpec)

/-- 'reportescrowlaw09.ReshareActs', WHERE WHAT IT READS IS OF BULK AT MOST 1048576: true; the input reads as it did. -/
def reshareActsUptoRow : OpenClaim := { program := "ytlhipgejiacklaadoor", sum := "f4b75fdaf7aeff94bbb7f23df02ef374b19523bf2e3256435e6f81be0f15b991", func := "reportescrow/reportescrowlaw09.ReshareActs", spec := "reshareActs", unfollowed := true, recurses := true, named := ["reportescrow/field.bases"], apart := false, laid := [("reportescrow/field.bases", laid_reportescrow_field_bases)], narrowed := true }
def ReshareActsUptoSaid : Prop := reshareActsUptoRow.holds Tryd.pinned (OpenSpec.upto reshareActsSpec)

/-- 'reportescrowlaw09.ReshareMoves', WHERE WHAT IT READS IS OF BULK AT MOST 1048576: true; the input reads as it did. -/
def reshareMovesUptoRow : OpenClaim := { program := "ytlhipgejiacklaadoor", sum := "f4b75fdaf7aeff94bbb7f23df02ef374b19523bf2e3256435e6f81be0f15b991", func := "reportescrow/reportescrowlaw09.ReshareMoves", spec := "reshareMoves", unfollowed := true, recurses := true, named := ["reportescrow/field.bases"], apart := false, laid := [("reportescrow/field.bases", laid_reportescrow_field_bases)], narrowed := true }
def ReshareMovesUptoSaid : Prop := reshareMovesUptoRow.holds Tryd.pinned (OpenSpec.upto reshareMovesSpec)

/-- 'reportescrowlaw09.ReshareParts', WHERE WHAT IT READS IS OF BULK AT MOST 1048576: true; the input reads as it did. -/
def resharePartsUptoRow : OpenClaim := { program := "ytlhipgejiacklaadoor", sum := "f4b75fdaf7aeff94bbb7f23df02ef374b19523bf2e3256435e6f81be0f15b991", func := "reportescrow/reportescrowlaw09.ReshareParts", spec := "reshareParts", unfollowed := true, recurses := true, named := ["reportescrow/field.bases"], apart := false, laid := [("reportescrow/field.bases", laid_reportescrow_field_bases)], narrowed := true }
def ResharePartsUptoSaid : Prop := resharePartsUptoRow.holds Tryd.pinned (OpenSpec.upto resharePartsSpec)

/-- 'reportescrowlaw09.ReshareBack', WHERE WHAT IT READS IS OF BULK AT MOST 1048576: true; the input reads as it did. -/
def reshareBackUptoRow : OpenClaim := { program := "ytlhipgejiacklaadoor", sum := "f4b75fdaf7aeff94bbb7f23df02ef374b19523bf2e3256435e6f81be0f15b991", func := "reportescrow/reportescrowlaw09.ReshareBack", spec := "reshareBack", unfollowed := true, recurses := true, named := ["reportescrow/field.bases"], apart := false, laid := [("reportescrow/field.bases", laid_reportescrow_field_bases)], narrowed := true }
def ReshareBackUptoSaid : Prop := reshareBackUptoRow.holds Tryd.pinned (OpenSpec.upto reshareBackSpec)

/-- 'reportescrowlaw09.ReshareHides', WHERE WHAT IT READS IS OF BULK AT MOST 1048576: true; the input reads as it did. -/
def reshareHidesUptoRow : OpenClaim := { program := "ytlhipgejiacklaadoor", sum := "f4b75fdaf7aeff94bbb7f23df02ef374b19523bf2e3256435e6f81be0f15b991", func := "reportescrow/reportescrowlaw09.ReshareHides", spec := "reshareHides", unfollowed := true, recurses := true, named := ["reportescrow/field.bases"], apart := false, laid := [("reportescrow/field.bases", laid_reportescrow_field_bases)], narrowed := true }
def ReshareHidesUptoSaid : Prop := reshareHidesUptoRow.holds Tryd.pinned (OpenSpec.upto reshareHidesSpec)

end Rows
end Go.Proofs.YtlhipgejiacklaaDoor
