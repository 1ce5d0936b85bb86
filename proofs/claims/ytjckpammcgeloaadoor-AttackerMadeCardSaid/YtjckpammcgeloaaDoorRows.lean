/-
  NARROWER THAN 'FOR EVERY INPUT', by the rows' own cells (each row's printed sentence says how): AttackerMade: laid · AttackerRaw: laid · AttackerAll: laid · AttackerOthers: laid.
  DERIVED. THE GIVEN ROWS OF THIS SEAT. 4 by the template 'for every input the law returns true; each argument reads behind the call as it read before'; 0 by the template 'total and deterministic' (their statements: YtjckpammcgeloaaDoorTotals.lean).
  GIVEN WITH THE SEED: the statements are not yours to turn. If you find one false, say at which input.
  Laid BY PROGRAM, IN A SANDBOX (cutbox-rows.mjs): the forced cells as the released guide's own fill.sh prints them over the translation 88bccc1d7a1d8a3e… (all of the seat's roots in one cut). By AI agents, Wed Nov 11 2026. No macro, syntax, notation, axiom, sorry.
-/
import Derived.Test.YtjckpammcgeloaaDoorChecked
import GoSem.Claim
import GoSem.ClaimJoined
import GoSem.ClaimMapViews
import Derived.JoinedTies
import Derived.KernelRfl
namespace Go.Proofs.YtjckpammcgeloaaDoor
/- THE CELL 'sum', in the pinned program and in every row, IS THE sha256 OF THE DUMP (.gsa) THAT YtjckpammcgeloaaDoorProg.lean LOADS. Nothing in Lean hashes anything: it is a label: what it is worth is what the hold of that sum in a sandbox is worth. -/
noncomputable def Tryd.pinned : Pinned := { name := "ytjckpammcgeloaadoor", sum := "88bccc1d7a1d8a3ee2e7c11f8d644d7aa4fc5f95144ba043ede4e71ed204f30c", checked := Tryd.checked }
namespace Rows
def none {H : Type} : Left H := { results := [], args := [] }

/- WHAT THE LISTED PACKAGE-LEVEL VARIABLES READ AS WHEN THE CALL BEGINS. Each datum BY PROGRAM (the guide's laid-datum.mjs) off the statement by which the dump's own 'gosem.cut.vars' lays the variable. In a bare row this is a premise. The card (YtjckpammcgeloaaDoorCards.lean) ties it to the program's text. -/
def laid_reportescrow_field_bases {H : Type} : DataW H := .agg [.lit (.int .i64 2), .lit (.int .i64 3), .lit (.int .i64 5), .lit (.int .i64 7)]

/-- 'reportescrowlaw42.AttackerMade': WHATEVER THE INPUT: true; the input reads as it did. -/
def attackerMadeSpec : ChangeSpec := { name := "attackerMade", fn := fun _ => fun
  | [d1, d2] => { results := [.lit (.bool true)], args := [d1, d2] }
  | _ => none }
def attackerMadeRow : OpenClaim := { program := "ytjckpammcgeloaadoor", sum := "88bccc1d7a1d8a3ee2e7c11f8d644d7aa4fc5f95144ba043ede4e71ed204f30c", func := "reportescrow/reportescrowlaw42.AttackerMade", spec := "attackerMade", unfollowed := true, recurses := true, named := ["reportescrow/field.bases"], apart := false, laid := [("reportescrow/field.bases", laid_reportescrow_field_bases)] }
def AttackerMadeSaid : Prop := attackerMadeRow.holds Tryd.pinned (OpenSpec.ofChange attackerMadeSpec)

/-- ITS FALSE NEIGHBOUR: 'it returns false'. Refute it at one input. -/
def attackerMadeWrong : ChangeSpec := { name := "attackerMade", fn := fun _ => fun
  | [d1, d2] => { results := [.lit (.bool false)], args := [d1, d2] }
  | _ => none }
def AttackerMadeWrongFalsely : Prop := attackerMadeRow.holds Tryd.pinned (OpenSpec.ofChange attackerMadeWrong)

/-- 'reportescrowlaw42.AttackerRaw': WHATEVER THE INPUT: true; the input reads as it did. -/
def attackerRawSpec : ChangeSpec := { name := "attackerRaw", fn := fun _ => fun
  | [d1, d2] => { results := [.lit (.bool true)], args := [d1, d2] }
  | _ => none }
def attackerRawRow : OpenClaim := { program := "ytjckpammcgeloaadoor", sum := "88bccc1d7a1d8a3ee2e7c11f8d644d7aa4fc5f95144ba043ede4e71ed204f30c", func := "reportescrow/reportescrowlaw42.AttackerRaw", spec := "attackerRaw", unfollowed := true, recurses := true, named := ["reportescrow/field.bases"], apart := false, laid := [("reportescrow/field.bases", laid_reportescrow_field_bases)] }
def AttackerRawSaid : Prop := attackerRawRow.holds Tryd.pinned (OpenSpec.ofChange attackerRawSpec)

/-- ITS FALSE NEIGHBOUR: 'it returns false'. Refute it at one input. -/
def attackerRawWrong : ChangeSpec := { name := "attackerRaw", fn := fun _ => fun
  | [d1, d2] => { results := [.lit (.bool false)], args := [d1, d2] }
  | _ => none }
def AttackerRawWrongFalsely : Prop := attackerRawRow.holds Tryd.pinned (OpenSpec.ofChange attackerRawWrong)

/-- 'reportescrowlaw42.AttackerAll': WHATEVER THE INPUT: true; the input reads as it did. -/
def attackerAllSpec : ChangeSpec := { name := "attackerAll", fn := fun _ => fun
  | [d1, d2] => { results := [.lit (.bool true)], args := [d1, d2] }
  | _ => none }
def attackerAllRow : OpenClaim := { program := "ytjckpammcgeloaadoor", sum := "88bccc1d7a1d8a3ee2e7c11f8d644d7aa4fc5f95144ba043ede4e71ed204f30c", func := "reportescrow/reportescrowlaw42.AttackerAll", spec := "attackerAll", unfollowed := true, recurses := true, named := ["reportescrow/field.bases"], apart := false, laid := [("reportescrow/field.bases", laid_reportescrow_field_bases)] }
def AttackerAllSaid : Prop := attackerAllRow.holds Tryd.pinned (OpenSpec.ofChange attackerAllSpec)

/-- ITS FALSE NEIGHBOUR: 'it returns false'. Refute it at one input. -/
def attackerAllWrong : ChangeSpec := { name := "attackerAll", fn := fun _ => fun
  | [d1, d2] => { results := [.lit (.bool false)], args := [d1, d2] }
  | _ => none }
def AttackerAllWrongFalsely : Prop := attackerAllRow.holds Tryd.pinned (OpenSpec.ofChange attackerAllWrong)

/-- 'reportescrowlaw42.AttackerOthers': WHATEVER THE INPUT: true; the input reads as it did. -/
def attackerOthersSpec : ChangeSpec := { name := "attackerOthers", fn := fun _ => fun
  | [d] => { results := [.lit (.bool true)], args := [d] }
  | _ => none }
def attackerOthersRow : OpenClaim := { program := "ytjckpammcgeloaadoor", sum := "88bccc1d7a1d8a3ee2e7c11f8d644d7aa4fc5f95144ba043ede4e71ed204f30c", func := "reportescrow/reportescrowlaw42.AttackerOthers", spec := "attackerOthers", unfollowed := true, recurses := true, named := ["reportescrow/field.bases"], apart := false, laid := [("reportescrow/field.bases", laid_reportescrow_field_bases)] }
def AttackerOthersSaid : Prop := attackerOthersRow.holds Tryd.pinned (OpenSpec.ofChange attackerOthersSpec)

/-- ITS FALSE NEIGHBOUR: 'it returns false'. Refute it at one input. -/
def attackerOthersWrong : ChangeSpec := { name := "attackerOthers", fn := fun _ => fun
  | [d] => { results := [.lit (.bool false)], args := [d] }
  | _ => none }
def AttackerOthersWrongFalsely : Prop := attackerOthersRow.holds Tryd.pinned (OpenSpec.ofChange attackerOthersWrong)

/- THE SECOND FORM. 'bulk': how many values and letters a reading holds, each counted each time it is reached (what is shared counts as often as it is met; a slice's spare places count too). A statement '..UptoSaid' is the law's where the arguments, and the package variables that the reading takes, are together of bulk at most 1048576: NARROWER than '..Said'. Prove '..Said' where nothing that the law and all that it calls make is longer than what came in: it says more and counts as full. Else prove '..UptoSaid'. A law counts once. -/
mutual
def uptoBulk {H : Type} : DataW H → Nat
  | .lit (.string bytes) => bytes.length + 1
  | .lit _ => 1
  | .nil => 1
  | .ptr d => uptoBulk d + 1
  | .slice elems spare => uptoBulkAll elems + uptoBulkAll spare + 1
  | .agg parts => uptoBulkAll parts + 1
  | .iface _ d => uptoBulk d + 1
  | .map entries => uptoBulkEntries entries + 1
  | .held _ => 1
def uptoBulkAll {H : Type} : List (DataW H) → Nat
  | [] => 0
  | d :: r => uptoBulk d + uptoBulkAll r
def uptoBulkEntries {H : Type} : List (Lit × DataW H) → Nat
  | [] => 0
  | x :: r => uptoBulkEntry x + uptoBulkEntries r
def uptoBulkEntry {H : Type} : Lit × DataW H → Nat
  | (.string bytes, d) => bytes.length + uptoBulk d + 1
  | (_, d) => uptoBulk d + 1
 end
def uptoSmall : (H : Type) → List (DataW H) → Bool := fun _ ds => decide (uptoBulkAll ds ≤ 1048576)
def OpenSpec.upto (s : _root_.Go.ChangeSpec) : _root_.Go.OpenSpec := { _root_.Go.OpenSpec.ofChange s with cond := some uptoSmall }

/-- 'reportescrowlaw42.AttackerMade', WHERE WHAT IT READS IS OF BULK AT MOST 1048576: true; the input reads as it did. -/
def attackerMadeUptoRow : OpenClaim := { program := "ytjckpammcgeloaadoor", sum := "88bccc1d7a1d8a3ee2e7c11f8d644d7aa4fc5f95144ba043ede4e71ed204f30c", func := "reportescrow/reportescrowlaw42.AttackerMade", spec := "attackerMade", unfollowed := true, recurses := true, named := ["reportescrow/field.bases"], apart := false, laid := [("reportescrow/field.bases", laid_reportescrow_field_bases)], narrowed := true }
def AttackerMadeUptoSaid : Prop := attackerMadeUptoRow.holds Tryd.pinned (OpenSpec.upto attackerMadeSpec)

/-- 'reportescrowlaw42.AttackerRaw', WHERE WHAT IT READS IS OF BULK AT MOST 1048576: true; the input reads as it did. -/
def attackerRawUptoRow : OpenClaim := { program := "ytjckpammcgeloaadoor", sum := "88bccc1d7a1d8a3ee2e7c11f8d644d7aa4fc5f95144ba043ede4e71ed204f30c", func := "reportescrow/reportescrowlaw42.AttackerRaw", spec := "attackerRaw", unfollowed := true, recurses := true, named := ["reportescrow/field.bases"], apart := false, laid := [("reportescrow/field.bases", laid_reportescrow_field_bases)], narrowed := true }
def AttackerRawUptoSaid : Prop := attackerRawUptoRow.holds Tryd.pinned (OpenSpec.upto attackerRawSpec)

/-- 'reportescrowlaw42.AttackerAll', WHERE WHAT IT READS IS OF BULK AT MOST 1048576: true; the input reads as it did. -/
def attackerAllUptoRow : OpenClaim := { program := "ytjckpammcgeloaadoor", sum := "88bccc1d7a1d8a3ee2e7c11f8d644d7aa4fc5f95144ba043ede4e71ed204f30c", func := "reportescrow/reportescrowlaw42.AttackerAll", spec := "attackerAll", unfollowed := true, recurses := true, named := ["reportescrow/field.bases"], apart := false, laid := [("reportescrow/field.bases", laid_reportescrow_field_bases)], narrowed := true }
def AttackerAllUptoSaid : Prop := attackerAllUptoRow.holds Tryd.pinned (OpenSpec.upto attackerAllSpec)

/-- 'reportescrowlaw42.AttackerOthers', WHERE WHAT IT READS IS OF BULK AT MOST 1048576: true; the input reads as it did. -/
def attackerOthersUptoRow : OpenClaim := { program := "ytjckpammcgeloaadoor", sum := "88bccc1d7a1d8a3ee2e7c11f8d644d7aa4fc5f95144ba043ede4e71ed204f30c", func := "reportescrow/reportescrowlaw42.AttackerOthers", spec := "attackerOthers", unfollowed := true, recurses := true, named := ["reportescrow/field.bases"], apart := false, laid := [("reportescrow/field.bases", laid_reportescrow_field_bases)], narrowed := true }
def AttackerOthersUptoSaid : Prop := attackerOthersUptoRow.holds Tryd.pinned (OpenSpec.upto attackerOthersSpec)

end Rows
end Go.Proofs.YtjckpammcgeloaaDoor
