/-
  No cell of these rows narrows 'for every input' (looked for: loops, veiled, ifaces, maps, wideKeys, modest, calm, conditions, laid).
  DERIVED. THE GIVEN ROWS OF THIS SEAT. 9 by the template 'for every input the law returns true; each argument reads behind the call as it read before'; 0 by the template 'total and deterministic' (their statements: YtmnkgfimdlhhiaaTotals.lean).
  GIVEN WITH THE SEED: the statements are not yours to turn. If you find one false, say at which input.
  Laid BY PROGRAM, IN A SANDBOX (cutbox-rows.mjs): the forced cells as the released guide's own fill.sh prints them over the translation ee7513178a304c3e… (all of the seat's roots in one cut). By AI agents, Wed Nov 11 2026. No macro, syntax, notation, axiom, sorry.
-/
import Derived.Test.YtmnkgfimdlhhiaaChecked
import GoSem.Claim
import GoSem.ClaimJoined
import GoSem.ClaimMapViews
import Derived.JoinedTies
import Derived.KernelRfl
namespace Go.Proofs.Ytmnkgfimdlhhiaa
/- THE CELL 'sum', in the pinned program and in every row, IS THE sha256 OF THE DUMP (.gsa) THAT YtmnkgfimdlhhiaaProg.lean LOADS. Nothing in Lean hashes anything: it is a label: what it is worth is what the hold of that sum in a sandbox is worth. -/
noncomputable def Try.pinned : Pinned := { name := "ytmnkgfimdlhhiaa", sum := "ee7513178a304c3e144197069c0aeb8142542e88dc0412622ca09a2a61ded572", checked := Try.checked }
namespace Rows
def none {H : Type} : Left H := { results := [], args := [] }

/-- 'reportescrowlaw37.BudgetRaw': WHATEVER THE INPUT: true; the input reads as it did. -/
def budgetRawSpec : ChangeSpec := { name := "budgetRaw", fn := fun _ => fun
  | [d1, d2, d3] => { results := [.lit (.bool true)], args := [d1, d2, d3] }
  | _ => none }
def budgetRawRow : OpenClaim := { program := "ytmnkgfimdlhhiaa", sum := "ee7513178a304c3e144197069c0aeb8142542e88dc0412622ca09a2a61ded572", func := "reportescrow/reportescrowlaw37.BudgetRaw", spec := "budgetRaw", unfollowed := true, recurses := true, apart := false }
def BudgetRawSaid : Prop := budgetRawRow.holds Try.pinned (OpenSpec.ofChange budgetRawSpec)

/-- ITS FALSE NEIGHBOUR: 'it returns false'. Refute it at one input. -/
def budgetRawWrong : ChangeSpec := { name := "budgetRaw", fn := fun _ => fun
  | [d1, d2, d3] => { results := [.lit (.bool false)], args := [d1, d2, d3] }
  | _ => none }
def BudgetRawWrongFalsely : Prop := budgetRawRow.holds Try.pinned (OpenSpec.ofChange budgetRawWrong)

/-- 'reportescrowlaw37.BudgetMade': WHATEVER THE INPUT: true; the input reads as it did. -/
def budgetMadeSpec : ChangeSpec := { name := "budgetMade", fn := fun _ => fun
  | [d1, d2] => { results := [.lit (.bool true)], args := [d1, d2] }
  | _ => none }
def budgetMadeRow : OpenClaim := { program := "ytmnkgfimdlhhiaa", sum := "ee7513178a304c3e144197069c0aeb8142542e88dc0412622ca09a2a61ded572", func := "reportescrow/reportescrowlaw37.BudgetMade", spec := "budgetMade", unfollowed := true, recurses := true, apart := false }
def BudgetMadeSaid : Prop := budgetMadeRow.holds Try.pinned (OpenSpec.ofChange budgetMadeSpec)

/-- ITS FALSE NEIGHBOUR: 'it returns false'. Refute it at one input. -/
def budgetMadeWrong : ChangeSpec := { name := "budgetMade", fn := fun _ => fun
  | [d1, d2] => { results := [.lit (.bool false)], args := [d1, d2] }
  | _ => none }
def BudgetMadeWrongFalsely : Prop := budgetMadeRow.holds Try.pinned (OpenSpec.ofChange budgetMadeWrong)

/-- 'reportescrowlaw37.BudgetNever': WHATEVER THE INPUT: true; the input reads as it did. -/
def budgetNeverSpec : ChangeSpec := { name := "budgetNever", fn := fun _ => fun
  | [d] => { results := [.lit (.bool true)], args := [d] }
  | _ => none }
def budgetNeverRow : OpenClaim := { program := "ytmnkgfimdlhhiaa", sum := "ee7513178a304c3e144197069c0aeb8142542e88dc0412622ca09a2a61ded572", func := "reportescrow/reportescrowlaw37.BudgetNever", spec := "budgetNever", unfollowed := true, recurses := true, apart := false }
def BudgetNeverSaid : Prop := budgetNeverRow.holds Try.pinned (OpenSpec.ofChange budgetNeverSpec)

/-- ITS FALSE NEIGHBOUR: 'it returns false'. Refute it at one input. -/
def budgetNeverWrong : ChangeSpec := { name := "budgetNever", fn := fun _ => fun
  | [d] => { results := [.lit (.bool false)], args := [d] }
  | _ => none }
def BudgetNeverWrongFalsely : Prop := budgetNeverRow.holds Try.pinned (OpenSpec.ofChange budgetNeverWrong)

/-- 'reportescrowlaw37.BudgetCleans': WHATEVER THE INPUT: true; the input reads as it did. -/
def budgetCleansSpec : ChangeSpec := { name := "budgetCleans", fn := fun _ => fun
  | [d1, d2] => { results := [.lit (.bool true)], args := [d1, d2] }
  | _ => none }
def budgetCleansRow : OpenClaim := { program := "ytmnkgfimdlhhiaa", sum := "ee7513178a304c3e144197069c0aeb8142542e88dc0412622ca09a2a61ded572", func := "reportescrow/reportescrowlaw37.BudgetCleans", spec := "budgetCleans", unfollowed := true, recurses := true, apart := false }
def BudgetCleansSaid : Prop := budgetCleansRow.holds Try.pinned (OpenSpec.ofChange budgetCleansSpec)

/-- ITS FALSE NEIGHBOUR: 'it returns false'. Refute it at one input. -/
def budgetCleansWrong : ChangeSpec := { name := "budgetCleans", fn := fun _ => fun
  | [d1, d2] => { results := [.lit (.bool false)], args := [d1, d2] }
  | _ => none }
def BudgetCleansWrongFalsely : Prop := budgetCleansRow.holds Try.pinned (OpenSpec.ofChange budgetCleansWrong)

/-- 'reportescrowlaw37.BudgetTotals': WHATEVER THE INPUT: true; the input reads as it did. -/
def budgetTotalsSpec : ChangeSpec := { name := "budgetTotals", fn := fun _ => fun
  | [d1, d2, d3] => { results := [.lit (.bool true)], args := [d1, d2, d3] }
  | _ => none }
def budgetTotalsRow : OpenClaim := { program := "ytmnkgfimdlhhiaa", sum := "ee7513178a304c3e144197069c0aeb8142542e88dc0412622ca09a2a61ded572", func := "reportescrow/reportescrowlaw37.BudgetTotals", spec := "budgetTotals", unfollowed := true, recurses := true, apart := false }
def BudgetTotalsSaid : Prop := budgetTotalsRow.holds Try.pinned (OpenSpec.ofChange budgetTotalsSpec)

/-- ITS FALSE NEIGHBOUR: 'it returns false'. Refute it at one input. -/
def budgetTotalsWrong : ChangeSpec := { name := "budgetTotals", fn := fun _ => fun
  | [d1, d2, d3] => { results := [.lit (.bool false)], args := [d1, d2, d3] }
  | _ => none }
def BudgetTotalsWrongFalsely : Prop := budgetTotalsRow.holds Try.pinned (OpenSpec.ofChange budgetTotalsWrong)

/-- 'reportescrowlaw39.StatisticSpends': WHATEVER THE INPUT: true; the input reads as it did. -/
def statisticSpendsSpec : ChangeSpec := { name := "statisticSpends", fn := fun _ => fun
  | [d] => { results := [.lit (.bool true)], args := [d] }
  | _ => none }
def statisticSpendsRow : OpenClaim := { program := "ytmnkgfimdlhhiaa", sum := "ee7513178a304c3e144197069c0aeb8142542e88dc0412622ca09a2a61ded572", func := "reportescrow/reportescrowlaw39.StatisticSpends", spec := "statisticSpends", unfollowed := true, recurses := true, apart := false }
def StatisticSpendsSaid : Prop := statisticSpendsRow.holds Try.pinned (OpenSpec.ofChange statisticSpendsSpec)

/-- ITS FALSE NEIGHBOUR: 'it returns false'. Refute it at one input. -/
def statisticSpendsWrong : ChangeSpec := { name := "statisticSpends", fn := fun _ => fun
  | [d] => { results := [.lit (.bool false)], args := [d] }
  | _ => none }
def StatisticSpendsWrongFalsely : Prop := statisticSpendsRow.holds Try.pinned (OpenSpec.ofChange statisticSpendsWrong)

/-- 'reportescrowlaw39.StatisticCounts': WHATEVER THE INPUT: true; the input reads as it did. -/
def statisticCountsSpec : ChangeSpec := { name := "statisticCounts", fn := fun _ => fun
  | [d] => { results := [.lit (.bool true)], args := [d] }
  | _ => none }
def statisticCountsRow : OpenClaim := { program := "ytmnkgfimdlhhiaa", sum := "ee7513178a304c3e144197069c0aeb8142542e88dc0412622ca09a2a61ded572", func := "reportescrow/reportescrowlaw39.StatisticCounts", spec := "statisticCounts", unfollowed := true, recurses := true, apart := false }
def StatisticCountsSaid : Prop := statisticCountsRow.holds Try.pinned (OpenSpec.ofChange statisticCountsSpec)

/-- ITS FALSE NEIGHBOUR: 'it returns false'. Refute it at one input. -/
def statisticCountsWrong : ChangeSpec := { name := "statisticCounts", fn := fun _ => fun
  | [d] => { results := [.lit (.bool false)], args := [d] }
  | _ => none }
def StatisticCountsWrongFalsely : Prop := statisticCountsRow.holds Try.pinned (OpenSpec.ofChange statisticCountsWrong)

/-- 'reportescrowlaw39.StatisticMade': WHATEVER THE INPUT: true; the input reads as it did. -/
def statisticMadeSpec : ChangeSpec := { name := "statisticMade", fn := fun _ => fun
  | [d1, d2, d3] => { results := [.lit (.bool true)], args := [d1, d2, d3] }
  | _ => none }
def statisticMadeRow : OpenClaim := { program := "ytmnkgfimdlhhiaa", sum := "ee7513178a304c3e144197069c0aeb8142542e88dc0412622ca09a2a61ded572", func := "reportescrow/reportescrowlaw39.StatisticMade", spec := "statisticMade", unfollowed := true, recurses := true, apart := false }
def StatisticMadeSaid : Prop := statisticMadeRow.holds Try.pinned (OpenSpec.ofChange statisticMadeSpec)

/-- ITS FALSE NEIGHBOUR: 'it returns false'. Refute it at one input. -/
def statisticMadeWrong : ChangeSpec := { name := "statisticMade", fn := fun _ => fun
  | [d1, d2, d3] => { results := [.lit (.bool false)], args := [d1, d2, d3] }
  | _ => none }
def StatisticMadeWrongFalsely : Prop := statisticMadeRow.holds Try.pinned (OpenSpec.ofChange statisticMadeWrong)

/-- 'reportescrowlaw39.StatisticPrivate': WHATEVER THE INPUT: true; the input reads as it did. -/
def statisticPrivateSpec : ChangeSpec := { name := "statisticPrivate", fn := fun _ => fun
  | [d] => { results := [.lit (.bool true)], args := [d] }
  | _ => none }
def statisticPrivateRow : OpenClaim := { program := "ytmnkgfimdlhhiaa", sum := "ee7513178a304c3e144197069c0aeb8142542e88dc0412622ca09a2a61ded572", func := "reportescrow/reportescrowlaw39.StatisticPrivate", spec := "statisticPrivate", unfollowed := true, recurses := true, apart := false }
def StatisticPrivateSaid : Prop := statisticPrivateRow.holds Try.pinned (OpenSpec.ofChange statisticPrivateSpec)

/-- ITS FALSE NEIGHBOUR: 'it returns false'. Refute it at one input. -/
def statisticPrivateWrong : ChangeSpec := { name := "statisticPrivate", fn := fun _ => fun
  | [d] => { results := [.lit (.bool false)], args := [d] }
  | _ => none }
def StatisticPrivateWrongFalsely : Prop := statisticPrivateRow.holds Try.pinned (OpenSpec.ofChange statisticPrivateWrong)

/- THE SECOND FORM. 'bulk': how many values and letters a reading holds, each counted each time it is reached (what is shared counts as often as it is met; a slice's spare places count too). A statement '..UptoSaid' is the law's where the arguments, and the package variables that the reading takes, are together of bulk at most 1048576: NARROWER than '..Said'. Prove '..Said' where nothing that the law and all that it calls make is longer than what came in: it says more and counts as full. Else prove '..UptoSaid'. A law counts once. -/
mutual
def uptoBulk {H : Type} : DataW H → Nat
  | .lit (.string bytes) => bytes.length + 1
  | .lit _ => 1
  | .nil => 1
  | .ptr d => uptoBulk d + 1
  | .slice elems spare => uptoBulkAll elems + uptoBulkAll spare + 1
  | .agg parts => uptoBulkAll parts + 1
  | .iface _ d => uptoBulk d + 1
  | .map entries => uptoBulkEntries entries + 1
  | .held _ => 1
def uptoBulkAll {H : Type} : List (DataW H) → Nat
  | [] => 0
  | d :: r => uptoBulk d + uptoBulkAll r
def uptoBulkEntries {H : Type} : List (Lit × DataW H) → Nat
  | [] => 0
  | x :: r => uptoBulkEntry x + uptoBulkEntries r
def uptoBulkEntry {H : Type} : Lit × DataW H → Nat
  | (.string bytes, d) => bytes.length + uptoBulk d + 1
  | (_, d) => uptoBulk d + 1
 end
def uptoSmall : (H : Type) → List (DataW H) → Bool := fun _ ds => decide (uptoBulkAll ds ≤ 1048576)
def OpenSpec.upto (s : _root_.Go.ChangeSpec) : _root_.Go.OpenSpec := { _root_.Go.OpenSpec.ofChange s with cond := some uptoSmall }

/-- 'reportescrowlaw37.BudgetRaw', WHERE WHAT IT READS IS OF BULK AT MOST 1048576: true; the input reads as it did. -/
def budgetRawUptoRow : OpenClaim := { program := "ytmnkgfimdlhhiaa", sum := "ee7513178a304c3e144197069c0aeb8142542e88dc0412622ca09a2a61ded572", func := "reportescrow/reportescrowlaw37.BudgetRaw", spec := "budgetRaw", unfollowed := true, recurses := true, apart := false, narrowed := true }
def BudgetRawUptoSaid : Prop := budgetRawUptoRow.holds Try.pinned (OpenSpec.upto budgetRawSpec)

/-- 'reportescrowlaw37.BudgetMade', WHERE WHAT IT READS IS OF BULK AT MOST 1048576: true; the input reads as it did. -/
def budgetMadeUptoRow : OpenClaim := { program := "ytmnkgfimdlhhiaa", sum := "ee7513178a304c3e144197069c0aeb8142542e88dc0412622ca09a2a61ded572", func := "reportescrow/reportescrowlaw37.BudgetMade", spec := "budgetMade", unfollowed := true, recurses := true, apart := false, narrowed := true }
def BudgetMadeUptoSaid : Prop := budgetMadeUptoRow.holds Try.pinned (OpenSpec.upto budgetMadeSpec)

/-- 'reportescrowlaw37.BudgetNever', WHERE WHAT IT READS IS OF BULK AT MOST 1048576: true; the input reads as it did. -/
def budgetNeverUptoRow : OpenClaim := { program := "ytmnkgfimdlhhiaa", sum := "ee7513178a304c3e144197069c0aeb8142542e88dc0412622ca09a2a61ded572", func := "reportescrow/reportescrowlaw37.BudgetNever", spec := "budgetNever", unfollowed := true, recurses := true, apart := false, narrowed := true }
def BudgetNeverUptoSaid : Prop := budgetNeverUptoRow.holds Try.pinned (OpenSpec.upto budgetNeverSpec)

/-- 'reportescrowlaw37.BudgetCleans', WHERE WHAT IT READS IS OF BULK AT MOST 1048576: true; the input reads as it did. -/
def budgetCleansUptoRow : OpenClaim := { program := "ytmnkgfimdlhhiaa", sum := "ee7513178a304c3e144197069c0aeb8142542e88dc0412622ca09a2a61ded572", func := "reportescrow/reportescrowlaw37.BudgetCleans", spec := "budgetCleans", unfollowed := true, recurses := true, apart := false, narrowed := true }
def BudgetCleansUptoSaid : Prop := budgetCleansUptoRow.holds Try.pinned (OpenSpec.upto budgetCleansSpec)

/-- 'reportescrowlaw37.BudgetTotals', WHERE WHAT IT READS IS OF BULK AT MOST 1048576: true; the input reads as it did. -/
def budgetTotalsUptoRow : OpenClaim := { program := "ytmnkgfimdlhhiaa", sum := "ee7513178a304c3e144197069c0aeb8142542e88dc0412622ca09a2a61ded572", func := "reportescrow/reportescrowlaw37.BudgetTotals", spec := "budgetTotals", unfollowed := true, recurses := true, apart := false, narrowed := true }
def BudgetTotalsUptoSaid : Prop := budgetTotalsUptoRow.holds Try.pinned (OpenSpec.upto budgetTotalsSpec)

/-- 'reportescrowlaw39.StatisticSpends', WHERE WHAT IT READS IS OF BULK AT MOST 1048576: true; the input reads as it did. -/
def statisticSpendsUptoRow : OpenClaim := { program := "ytmnkgfimdlhhiaa", sum := "ee7513178a304c3e144197069c0aeb8142542e88dc0412622ca09a2a61ded572", func := "reportescrow/reportescrowlaw39.StatisticSpends", spec := "statisticSpends", unfollowed := true, recurses := true, apart := false, narrowed := true }
def StatisticSpendsUptoSaid : Prop := statisticSpendsUptoRow.holds Try.pinned (OpenSpec.upto statisticSpendsSpec)

/-- 'reportescrowlaw39.StatisticCounts', WHERE WHAT IT READS IS OF BULK AT MOST 1048576: true; the input reads as it did. -/
def statisticCountsUptoRow : OpenClaim := { program := "ytmnkgfimdlhhiaa", sum := "ee7513178a304c3e144197069c0aeb8142542e88dc0412622ca09a2a61ded572", func := "reportescrow/reportescrowlaw39.StatisticCounts", spec := "statisticCounts", unfollowed := true, recurses := true, apart := false, narrowed := true }
def StatisticCountsUptoSaid : Prop := statisticCountsUptoRow.holds Try.pinned (OpenSpec.upto statisticCountsSpec)

/-- 'reportescrowlaw39.StatisticMade', WHERE WHAT IT READS IS OF BULK AT MOST 1048576: true; the input reads as it did. -/
def statisticMadeUptoRow : OpenClaim := { program := "ytmnkgfimdlhhiaa", sum := "ee7513178a304c3e144197069c0aeb8142542e88dc0412622ca09a2a61ded572", func := "reportescrow/reportescrowlaw39.StatisticMade", spec := "statisticMade", unfollowed := true, recurses := true, apart := false, narrowed := true }
def StatisticMadeUptoSaid : Prop := statisticMadeUptoRow.holds Try.pinned (OpenSpec.upto statisticMadeSpec)

/-- 'reportescrowlaw39.StatisticPrivate', WHERE WHAT IT READS IS OF BULK AT MOST 1048576: true; the input reads as it did. -/
def statisticPrivateUptoRow : OpenClaim := { program := "ytmnkgfimdlhhiaa", sum := "ee7513178a304c3e144197069c0aeb8142542e88dc0412622ca09a2a61ded572", func := "reportescrow/reportescrowlaw39.StatisticPrivate", spec := "statisticPrivate", unfollowed := true, recurses := true, apart := false, narrowed := true }
def StatisticPrivateUptoSaid : Prop := statisticPrivateUptoRow.holds Try.pinned (OpenSpec.upto statisticPrivateSpec)

end Rows
end Go.Proofs.Ytmnkgfimdlhhiaa
