/-
  NARROWER THAN 'FOR EVERY INPUT', by the rows' own cells (each row's printed sentence says how): ShareDeals: laid · ShareCounts: laid · ShareSecrets: laid · ShareCombines: laid · ShareSums: laid · ShareExplains: laid · ShareHides: laid.
  DERIVED. THE GIVEN ROWS OF THIS SEAT. 7 by the template 'for every input the law returns true; each argument reads behind the call as it read before'; 0 by the template 'total and deterministic' (their statements: YtkjpnhhkebbmdaaDoorTotals.lean).
  GIVEN WITH THE SEED: the statements are not yours to turn. If you find one false, say at which input.
  Laid BY PROGRAM, IN A SANDBOX (cutbox-rows.mjs): the forced cells as the released guide's own fill.sh prints them over the translation d77a48debd47fdfd… (all of the seat's roots in one cut). By AI agents, Wed Nov 11 2026. No macro, syntax, notation, axiom, sorry.
-/
import Derived.Test.YtkjpnhhkebbmdaaDoorChecked
import GoSem.Claim
import GoSem.ClaimJoined
import GoSem.ClaimMapViews
import Derived.JoinedTies
import Derived.KernelRfl
namespace Go.Proofs.YtkjpnhhkebbmdaaDoor
/- THE CELL 'sum', in the pinned program and in every row, IS THE sha256 OF THE DUMP (.gsa) THAT YtkjpnhhkebbmdaaDoorProg.lean LOADS. Nothing in Lean hashes anything: it is a label: what it is worth is what the hold of that sum in a sandbox is worth. -/
noncomputable def Tryd.pinned : Pinned := { name := "ytkjpnhhkebbmdaadoor", sum := "d77a48debd47fdfdd753b3750a009eae01893fa0ef59ebbc243511b73df5987d", checked := Tryd.checked }
namespace Rows
def none {H : Type} : Left H := { results := [], args := [] }

/- WHAT THE LISTED PACKAGE-LEVEL VARIABLES READ AS WHEN THE CALL BEGINS. Each datum BY PROGRAM (the guide's laid-datum.mjs) off the statement by which the dump's own 'gosem.cut.vars' lays the variable. In a bare row this is a premise. The card (YtkjpnhhkebbmdaaDoorCards.lean) ties it to the program's text. -/
def laid_reportescrow_field_bases {H : Type} : DataW H := .agg [.lit (.int .i64 2), .lit (.int .i64 3), .lit (.int .i64 5), .lit (.int .i64 7)]

/-- 'reportescrowlaw06.ShareDeals': WHATEVER THE INPUT: true; the input reads as it did. -/
def shareDealsSpec : ChangeSpec := { name := "shareDeals", fn := fun _ => fun
  | [d1, d2, d3, d4] => { results := [.lit (.bool true)], args := [d1, d2, d3, d4] }
  | _ => none }
def shareDealsRow : OpenClaim := { program := "ytkjpnhhkebbmdaadoor", sum := "d77a48debd47fdfdd753b3750a009eae01893fa0ef59ebbc243511b73df5987d", func := "reportescrow/reportescrowlaw06.ShareDeals", spec := "shareDeals", unfollowed := true, recurses := true, named := ["reportescrow/field.bases"], apart := false, laid := [("reportescrow/field.bases", laid_reportescrow_field_bases)] }
def ShareDealsSaid : Prop := shareDealsRow.holds Tryd.pinned (OpenSpec.ofChange shareDealsSpec)

/-- ITS FALSE NEIGHBOUR: 'it returns false'. Refute it at one input. -/
def shareDealsWrong : ChangeSpec := { name := "shareDeals", fn := fun _ => fun
  | [d1, d2, d3, d4] => { results := [.lit (.bool false)], args := [d1, d2, d3, d4] }
  | _ => none }
def ShareDealsWrongFalsely : Prop := shareDealsRow.holds Tryd.pinned (OpenSpec.ofChange shareDealsWrong)

/-- 'reportescrowlaw06.ShareCounts': WHATEVER THE INPUT: true; the input reads as it did. -/
def shareCountsSpec : ChangeSpec := { name := "shareCounts", fn := fun _ => fun
  | [d1, d2, d3, d4] => { results := [.lit (.bool true)], args := [d1, d2, d3, d4] }
  | _ => none }
def shareCountsRow : OpenClaim := { program := "ytkjpnhhkebbmdaadoor", sum := "d77a48debd47fdfdd753b3750a009eae01893fa0ef59ebbc243511b73df5987d", func := "reportescrow/reportescrowlaw06.ShareCounts", spec := "shareCounts", unfollowed := true, recurses := true, named := ["reportescrow/field.bases"], apart := false, laid := [("reportescrow/field.bases", laid_reportescrow_field_bases)] }
def ShareCountsSaid : Prop := shareCountsRow.holds Tryd.pinned (OpenSpec.ofChange shareCountsSpec)

/-- ITS FALSE NEIGHBOUR: 'it returns false'. Refute it at one input. -/
def shareCountsWrong : ChangeSpec := { name := "shareCounts", fn := fun _ => fun
  | [d1, d2, d3, d4] => { results := [.lit (.bool false)], args := [d1, d2, d3, d4] }
  | _ => none }
def ShareCountsWrongFalsely : Prop := shareCountsRow.holds Tryd.pinned (OpenSpec.ofChange shareCountsWrong)

/-- 'reportescrowlaw06.ShareSecrets': WHATEVER THE INPUT: true; the input reads as it did. -/
def shareSecretsSpec : ChangeSpec := { name := "shareSecrets", fn := fun _ => fun
  | [d] => { results := [.lit (.bool true)], args := [d] }
  | _ => none }
def shareSecretsRow : OpenClaim := { program := "ytkjpnhhkebbmdaadoor", sum := "d77a48debd47fdfdd753b3750a009eae01893fa0ef59ebbc243511b73df5987d", func := "reportescrow/reportescrowlaw06.ShareSecrets", spec := "shareSecrets", unfollowed := true, recurses := true, named := ["reportescrow/field.bases"], apart := false, laid := [("reportescrow/field.bases", laid_reportescrow_field_bases)] }
def ShareSecretsSaid : Prop := shareSecretsRow.holds Tryd.pinned (OpenSpec.ofChange shareSecretsSpec)

/-- ITS FALSE NEIGHBOUR: 'it returns false'. Refute it at one input. -/
def shareSecretsWrong : ChangeSpec := { name := "shareSecrets", fn := fun _ => fun
  | [d] => { results := [.lit (.bool false)], args := [d] }
  | _ => none }
def ShareSecretsWrongFalsely : Prop := shareSecretsRow.holds Tryd.pinned (OpenSpec.ofChange shareSecretsWrong)

/-- 'reportescrowlaw06.ShareCombines': WHATEVER THE INPUT: true; the input reads as it did. -/
def shareCombinesSpec : ChangeSpec := { name := "shareCombines", fn := fun _ => fun
  | [d1, d2, d3] => { results := [.lit (.bool true)], args := [d1, d2, d3] }
  | _ => none }
def shareCombinesRow : OpenClaim := { program := "ytkjpnhhkebbmdaadoor", sum := "d77a48debd47fdfdd753b3750a009eae01893fa0ef59ebbc243511b73df5987d", func := "reportescrow/reportescrowlaw06.ShareCombines", spec := "shareCombines", unfollowed := true, recurses := true, named := ["reportescrow/field.bases"], apart := false, laid := [("reportescrow/field.bases", laid_reportescrow_field_bases)] }
def ShareCombinesSaid : Prop := shareCombinesRow.holds Tryd.pinned (OpenSpec.ofChange shareCombinesSpec)

/-- ITS FALSE NEIGHBOUR: 'it returns false'. Refute it at one input. -/
def shareCombinesWrong : ChangeSpec := { name := "shareCombines", fn := fun _ => fun
  | [d1, d2, d3] => { results := [.lit (.bool false)], args := [d1, d2, d3] }
  | _ => none }
def ShareCombinesWrongFalsely : Prop := shareCombinesRow.holds Tryd.pinned (OpenSpec.ofChange shareCombinesWrong)

/-- 'reportescrowlaw06.ShareSums': WHATEVER THE INPUT: true; the input reads as it did. -/
def shareSumsSpec : ChangeSpec := { name := "shareSums", fn := fun _ => fun
  | [d1, d2] => { results := [.lit (.bool true)], args := [d1, d2] }
  | _ => none }
def shareSumsRow : OpenClaim := { program := "ytkjpnhhkebbmdaadoor", sum := "d77a48debd47fdfdd753b3750a009eae01893fa0ef59ebbc243511b73df5987d", func := "reportescrow/reportescrowlaw06.ShareSums", spec := "shareSums", unfollowed := true, recurses := true, named := ["reportescrow/field.bases"], apart := false, laid := [("reportescrow/field.bases", laid_reportescrow_field_bases)] }
def ShareSumsSaid : Prop := shareSumsRow.holds Tryd.pinned (OpenSpec.ofChange shareSumsSpec)

/-- ITS FALSE NEIGHBOUR: 'it returns false'. Refute it at one input. -/
def shareSumsWrong : ChangeSpec := { name := "shareSums", fn := fun _ => fun
  | [d1, d2] => { results := [.lit (.bool false)], args := [d1, d2] }
  | _ => none }
def ShareSumsWrongFalsely : Prop := shareSumsRow.holds Tryd.pinned (OpenSpec.ofChange shareSumsWrong)

/-- 'reportescrowlaw06.ShareExplains': WHATEVER THE INPUT: true; the input reads as it did. -/
def shareExplainsSpec : ChangeSpec := { name := "shareExplains", fn := fun _ => fun
  | [d1, d2, d3] => { results := [.lit (.bool true)], args := [d1, d2, d3] }
  | _ => none }
def shareExplainsRow : OpenClaim := { program := "ytkjpnhhkebbmdaadoor", sum := "d77a48debd47fdfdd753b3750a009eae01893fa0ef59ebbc243511b73df5987d", func := "reportescrow/reportescrowlaw06.ShareExplains", spec := "shareExplains", unfollowed := true, recurses := true, named := ["reportescrow/field.bases"], apart := false, laid := [("reportescrow/field.bases", laid_reportescrow_field_bases)] }
def ShareExplainsSaid : Prop := shareExplainsRow.holds Tryd.pinned (OpenSpec.ofChange shareExplainsSpec)

/-- ITS FALSE NEIGHBOUR: 'it returns false'. Refute it at one input. -/
def shareExplainsWrong : ChangeSpec := { name := "shareExplains", fn := fun _ => fun
  | [d1, d2, d3] => { results := [.lit (.bool false)], args := [d1, d2, d3] }
  | _ => none }
def ShareExplainsWrongFalsely : Prop := shareExplainsRow.holds Tryd.pinned (OpenSpec.ofChange shareExplainsWrong)

/-- 'reportescrowlaw06.ShareHides': WHATEVER THE INPUT: true; the input reads as it did. -/
def shareHidesSpec : ChangeSpec := { name := "shareHides", fn := fun _ => fun
  | [d] => { results := [.lit (.bool true)], args := [d] }
  | _ => none }
def shareHidesRow : OpenClaim := { program := "ytkjpnhhkebbmdaadoor", sum := "d77a48debd47fdfdd753b3750a009eae01893fa0ef59ebbc243511b73df5987d", func := "reportescrow/reportescrowlaw06.ShareHides", spec := "shareHides", unfollowed := true, recurses := true, named := ["reportescrow/field.bases"], apart := false, laid := [("reportescrow/field.bases", laid_reportescrow_field_bases)] }
def ShareHidesSaid : Prop := shareHidesRow.holds Tryd.pinned (OpenSpec.ofChange shareHidesSpec)

/-- ITS FALSE NEIGHBOUR: 'it returns false'. Refute it at one input. -/
def shareHidesWrong : ChangeSpec := { name := "shareHides", fn := fun _ => fun
  | [d] => { results := [.lit (.bool false)], args := [d] }
  | _ => none }
def ShareHidesWrongFalsely : Prop := shareHidesRow.holds Tryd.pinned (OpenSpec.ofChange shareHidesWrong)

/- THE SECOND FORM. 'bulk': how many values and letters a reading holds, each counted each time it is reached (what is shared counts as often as it is met; a slice's spare places count too). A statement '..UptoSaid' is the law's where the arguments, and the package variables that the reading takes, are together of bulk at most 1048576: NARROWER than '..Said'. Prove '..Said' where nothing that the law and all that it calls make is longer than what came in: it says more and counts as full. Else prove '..UptoSaid'. A law counts once. -/
mutual
def uptoBulk {H : Type} : DataW H → Nat
  | .lit (.string bytes) => bytes.length + 1
  | .lit _ => 1
  | .nil => 1
  | .ptr d => uptoBulk d + 1
  | .slice elems spare => uptoBulkAll elems + uptoBulkAll spare + 1
  | .agg parts => uptoBulkAll parts + 1
  | .iface _ d => uptoBulk d + 1
  | .map entries => uptoBulkEntries entries + 1
  | .held _ => 1
def uptoBulkAll {H : Type} : List (DataW H) → Nat
  | [] => 0
  | d :: r => uptoBulk d + uptoBulkAll r
def uptoBulkEntries {H : Type} : List (Lit × DataW H) → Nat
  | [] => 0
  | x :: r => uptoBulkEntry x + uptoBulkEntries r
def uptoBulkEntry {H : Type} : Lit × DataW H → Nat
  | (.string bytes, d) => bytes.length + uptoBulk d + 1
  | (_, d) => uptoBulk d + 1
 end
def uptoSmall : (H : Type) → List (DataW H) → Bool := fun _ ds => decide (uptoBulkAll ds ≤ 1048576)
def OpenSpec.upto (s : _root_.Go.ChangeSpec) : _root_.Go.OpenSpec := { _root_.Go.OpenSpec.ofChange s with cond := some uptoSmall }

/-- 'reportescrowlaw06.ShareDeals', WHERE WHAT IT READS IS OF BULK AT MOST 1048576: true; the input reads as it did. -/
def shareDealsUptoRow : OpenClaim := { program := "ytkjpnhhkebbmdaadoor", sum := "d77a48debd47fdfdd753b3750a009eae01893fa0ef59ebbc243511b73df5987d", func := "reportescrow/reportescrowlaw06.ShareDeals", spec := "shareDeals", unfollowed := true, recurses := true, named := ["reportescrow/field.bases"], apart := false, laid := [("reportescrow/field.bases", laid_reportescrow_field_bases)], narrowed := true }
def ShareDealsUptoSaid : Prop := shareDealsUptoRow.holds Tryd.pinned (OpenSpec.upto shareDealsSpec)

/-- 'reportescrowlaw06.ShareCounts', WHERE WHAT IT READS IS OF BULK AT MOST 1048576: true; the input reads as it did. -/
def shareCountsUptoRow : OpenClaim := { program := "ytkjpnhhkebbmdaadoor", sum := "d77a48debd47fdfdd753b3750a009eae01893fa0ef59ebbc243511b73df5987d", func := "reportescrow/reportescrowlaw06.ShareCounts", spec := "shareCounts", unfollowed := true, recurses := true, named := ["reportescrow/field.bases"], apart := false, laid := [("reportescrow/field.bases", laid_reportescrow_field_bases)], narrowed := true }
def ShareCountsUptoSaid : Prop := shareCountsUptoRow.holds Tryd.pinned (OpenSpec.upto shareCountsSpec)

/-- 'reportescrowlaw06.ShareSecrets', WHERE WHAT IT READS IS OF BULK AT MOST 1048576: true; the input reads as it did. -/
def shareSecretsUptoRow : OpenClaim := { program := "ytkjpnhhkebbmdaadoor", sum := "d77a48debd47fdfdd753b3750a009eae01893fa0ef59ebbc243511b73df5987d", func := "reportescrow/reportescrowlaw06.ShareSecrets", spec := "shareSecrets", unfollowed := true, recurses := true, named := ["reportescrow/field.bases"], apart := false, laid := [("reportescrow/field.bases", laid_reportescrow_field_bases)], narrowed := true }
def ShareSecretsUptoSaid : Prop := shareSecretsUptoRow.holds Tryd.pinned (OpenSpec.upto shareSecretsSpec)

/-- 'reportescrowlaw06.ShareCombines', WHERE WHAT IT READS IS OF BULK AT MOST 1048576: true; the input reads as it did. -/
def shareCombinesUptoRow : OpenClaim := { program := "ytkjpnhhkebbmdaadoor", sum := "d77a48debd47fdfdd753b3750a009eae01893fa0ef59ebbc243511b73df5987d", func := "reportescrow/reportescrowlaw06.ShareCombines", spec := "shareCombines", unfollowed := true, recurses := true, named := ["reportescrow/field.bases"], apart := false, laid := [("reportescrow/field.bases", laid_reportescrow_field_bases)], narrowed := true }
def ShareCombinesUptoSaid : Prop := shareCombinesUptoRow.holds Tryd.pinned (OpenSpec.upto shareCombinesSpec)

/-- 'reportescrowlaw06.ShareSums', WHERE WHAT IT READS IS OF BULK AT MOST 1048576: true; the input reads as it did. -/
def shareSumsUptoRow : OpenClaim := { program := "ytkjpnhhkebbmdaadoor", sum := "d77a48debd47fdfdd753b3750a009eae01893fa0ef59ebbc243511b73df5987d", func := "reportescrow/reportescrowlaw06.ShareSums", spec := "shareSums", unfollowed := true, recurses := true, named := ["reportescrow/field.bases"], apart := false, laid := [("reportescrow/field.bases", laid_reportescrow_field_bases)], narrowed := true }
def ShareSumsUptoSaid : Prop := shareSumsUptoRow.holds Tryd.pinned (OpenSpec.upto shareSumsSpec)

/-- 'reportescrowlaw06.ShareExplains', WHERE WHAT IT READS IS OF BULK AT MOST 1048576: true; the input reads as it did. -/
def shareExplainsUptoRow : OpenClaim := { program := "ytkjpnhhkebbmdaadoor", sum := "d77a48debd47fdfdd753b3750a009eae01893fa0ef59ebbc243511b73df5987d", func := "reportescrow/reportescrowlaw06.ShareExplains", spec := "shareExplains", unfollowed := true, recurses := true, named := ["reportescrow/field.bases"], apart := false, laid := [("reportescrow/field.bases", laid_reportescrow_field_bases)], narrowed := true }
def ShareExplainsUptoSaid : Prop := shareExplainsUptoRow.holds Tryd.pinned (OpenSpec.upto shareExplainsSpec)

/-- 'reportescrowlaw06.ShareHides', WHERE WHAT IT READS IS OF BULK AT MOST 1048576: true; the input reads as it did. -/
def shareHidesUptoRow : OpenClaim := { program := "ytkjpnhhkebbmdaadoor", sum := "d77a48debd47fdfdd753b3750a009eae01893fa0ef59ebbc243511b73df5987d", func := "reportescrow/reportescrowlaw06.ShareHides", spec := "shareHides", unfollowed := true, recurses := true, named := ["reportescrow/field.bases"], apart := false, laid := [("reportescrow/field.bases", laid_reportescrow_field_bases)], narrowed := true }
def ShareHidesUptoSaid : Prop := shareHidesUptoRow.holds Tryd.pinned (OpenSpec.upto shareHidesSpec)

end Rows
end Go.Proofs.YtkjpnhhkebbmdaaDoor
