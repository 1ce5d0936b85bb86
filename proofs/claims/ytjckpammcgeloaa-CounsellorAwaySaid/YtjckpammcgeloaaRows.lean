/-
  No cell of these rows narrows 'for every input' (looked for: loops, veiled, ifaces, maps, wideKeys, modest, calm, conditions, laid).
  DERIVED. THE GIVEN ROWS OF THIS SEAT. 5 by the template 'for every input the law returns true; each argument reads behind the call as it read before'; 0 by the template 'total and deterministic' (their statements: YtjckpammcgeloaaTotals.lean).
  GIVEN WITH THE SEED: the statements are not yours to turn. If you find one false, say at which input.
  Laid BY PROGRAM, IN A SANDBOX (cutbox-rows.mjs): the forced cells as the released guide's own fill.sh prints them over the translation f244d69df29d3b23… (all of the seat's roots in one cut). By AI agents, Wed Nov 11 2026. No macro, syntax, notation, axiom, sorry.
-/
import Derived.Test.YtjckpammcgeloaaChecked
import GoSem.Claim
import GoSem.ClaimJoined
import GoSem.ClaimMapViews
import Derived.JoinedTies
import Derived.KernelRfl
namespace Go.Proofs.Ytjckpammcgeloaa
/- THE CELL 'sum', in the pinned program and in every row, IS THE sha256 OF THE DUMP (.gsa) THAT YtjckpammcgeloaaProg.lean LOADS. Nothing in Lean hashes anything: it is a label: what it is worth is what the hold of that sum in a sandbox is worth. -/
noncomputable def Try.pinned : Pinned := { name := "ytjckpammcgeloaa", sum := "f244d69df29d3b233390b41ff4cacb2f9489ec4196b4460cc4fa1b37b899d49a", checked := Try.checked }
namespace Rows
def none {H : Type} : Left H := { results := [], args := [] }

/-- 'reportescrowlaw32.CounsellorAway': WHATEVER THE INPUT: true; the input reads as it did. -/
def counsellorAwaySpec : ChangeSpec := { name := "counsellorAway", fn := fun _ => fun
  | [d] => { results := [.lit (.bool true)], args := [d] }
  | _ => none }
def counsellorAwayRow : OpenClaim := { program := "ytjckpammcgeloaa", sum := "f244d69df29d3b233390b41ff4cacb2f9489ec4196b4460cc4fa1b37b899d49a", func := "reportescrow/reportescrowlaw32.CounsellorAway", spec := "counsellorAway", unfollowed := true, recurses := true, apart := false }
def CounsellorAwaySaid : Prop := counsellorAwayRow.holds Try.pinned (OpenSpec.ofChange counsellorAwaySpec)

/-- ITS FALSE NEIGHBOUR: 'it returns false'. Refute it at one input. -/
def counsellorAwayWrong : ChangeSpec := { name := "counsellorAway", fn := fun _ => fun
  | [d] => { results := [.lit (.bool false)], args := [d] }
  | _ => none }
def CounsellorAwayWrongFalsely : Prop := counsellorAwayRow.holds Try.pinned (OpenSpec.ofChange counsellorAwayWrong)

/-- 'reportescrowlaw32.CounsellorEven': WHATEVER THE INPUT: true; the input reads as it did. -/
def counsellorEvenSpec : ChangeSpec := { name := "counsellorEven", fn := fun _ => fun
  | [d1, d2] => { results := [.lit (.bool true)], args := [d1, d2] }
  | _ => none }
def counsellorEvenRow : OpenClaim := { program := "ytjckpammcgeloaa", sum := "f244d69df29d3b233390b41ff4cacb2f9489ec4196b4460cc4fa1b37b899d49a", func := "reportescrow/reportescrowlaw32.CounsellorEven", spec := "counsellorEven", unfollowed := true, recurses := true, apart := false }
def CounsellorEvenSaid : Prop := counsellorEvenRow.holds Try.pinned (OpenSpec.ofChange counsellorEvenSpec)

/-- ITS FALSE NEIGHBOUR: 'it returns false'. Refute it at one input. -/
def counsellorEvenWrong : ChangeSpec := { name := "counsellorEven", fn := fun _ => fun
  | [d1, d2] => { results := [.lit (.bool false)], args := [d1, d2] }
  | _ => none }
def CounsellorEvenWrongFalsely : Prop := counsellorEvenRow.holds Try.pinned (OpenSpec.ofChange counsellorEvenWrong)

/-- 'reportescrowlaw32.CounsellorLeaves': WHATEVER THE INPUT: true; the input reads as it did. -/
def counsellorLeavesSpec : ChangeSpec := { name := "counsellorLeaves", fn := fun _ => fun
  | [d] => { results := [.lit (.bool true)], args := [d] }
  | _ => none }
def counsellorLeavesRow : OpenClaim := { program := "ytjckpammcgeloaa", sum := "f244d69df29d3b233390b41ff4cacb2f9489ec4196b4460cc4fa1b37b899d49a", func := "reportescrow/reportescrowlaw32.CounsellorLeaves", spec := "counsellorLeaves", unfollowed := true, recurses := true, apart := false }
def CounsellorLeavesSaid : Prop := counsellorLeavesRow.holds Try.pinned (OpenSpec.ofChange counsellorLeavesSpec)

/-- ITS FALSE NEIGHBOUR: 'it returns false'. Refute it at one input. -/
def counsellorLeavesWrong : ChangeSpec := { name := "counsellorLeaves", fn := fun _ => fun
  | [d] => { results := [.lit (.bool false)], args := [d] }
  | _ => none }
def CounsellorLeavesWrongFalsely : Prop := counsellorLeavesRow.holds Try.pinned (OpenSpec.ofChange counsellorLeavesWrong)

/-- 'reportescrowlaw32.CounsellorRaw': WHATEVER THE INPUT: true; the input reads as it did. -/
def counsellorRawSpec : ChangeSpec := { name := "counsellorRaw", fn := fun _ => fun
  | [d1, d2, d3] => { results := [.lit (.bool true)], args := [d1, d2, d3] }
  | _ => none }
def counsellorRawRow : OpenClaim := { program := "ytjckpammcgeloaa", sum := "f244d69df29d3b233390b41ff4cacb2f9489ec4196b4460cc4fa1b37b899d49a", func := "reportescrow/reportescrowlaw32.CounsellorRaw", spec := "counsellorRaw", unfollowed := true, recurses := true, apart := false }
def CounsellorRawSaid : Prop := counsellorRawRow.holds Try.pinned (OpenSpec.ofChange counsellorRawSpec)

/-- ITS FALSE NEIGHBOUR: 'it returns false'. Refute it at one input. -/
def counsellorRawWrong : ChangeSpec := { name := "counsellorRaw", fn := fun _ => fun
  | [d1, d2, d3] => { results := [.lit (.bool false)], args := [d1, d2, d3] }
  | _ => none }
def CounsellorRawWrongFalsely : Prop := counsellorRawRow.holds Try.pinned (OpenSpec.ofChange counsellorRawWrong)

/-- 'reportescrowlaw32.CounsellorMade': WHATEVER THE INPUT: true; the input reads as it did. -/
def counsellorMadeSpec : ChangeSpec := { name := "counsellorMade", fn := fun _ => fun
  | [d1, d2] => { results := [.lit (.bool true)], args := [d1, d2] }
  | _ => none }
def counsellorMadeRow : OpenClaim := { program := "ytjckpammcgeloaa", sum := "f244d69df29d3b233390b41ff4cacb2f9489ec4196b4460cc4fa1b37b899d49a", func := "reportescrow/reportescrowlaw32.CounsellorMade", spec := "counsellorMade", unfollowed := true, recurses := true, apart := false }
def CounsellorMadeSaid : Prop := counsellorMadeRow.holds Try.pinned (OpenSpec.ofChange counsellorMadeSpec)

/-- ITS FALSE NEIGHBOUR: 'it returns false'. Refute it at one input. -/
def counsellorMadeWrong : ChangeSpec := { name := "counsellorMade", fn := fun _ => fun
  | [d1, d2] => { results := [.lit (.bool false)], args := [d1, d2] }
  | _ => none }
def CounsellorMadeWrongFalsely : Prop := counsellorMadeRow.holds Try.pinned (OpenSpec.ofChange counsellorMadeWrong)

/- THE SECOND FORM. 'bulk': how many values and letters a reading holds, each counted each time it is reached (what is shared counts as often as it is met; a slice's spare places count too). A statement '..UptoSaid' is the law's where the arguments, and the package variables that the reading takes, are together of bulk at most 1048576: NARROWER than '..Said'. Prove '..Said' where nothing that the law and all that it calls make is longer than what came in: it says more and counts as full. Else prove '..UptoSaid'. A law counts once. -/
mutual
def uptoBulk {H : Type} : DataW H → Nat
  | .lit (.string bytes) => bytes.length + 1
  | .lit _ => 1
  | .nil => 1
  | .ptr d => uptoBulk d + 1
  | .slice elems spare => uptoBulkAll elems + uptoBulkAll spare + 1
  | .agg parts => uptoBulkAll parts + 1
  | .iface _ d => uptoBulk d + 1
  | .map entries => uptoBulkEntries entries + 1
  | .held _ => 1
def uptoBulkAll {H : Type} : List (DataW H) → Nat
  | [] => 0
  | d :: r => uptoBulk d + uptoBulkAll r
def uptoBulkEntries {H : Type} : List (Lit × DataW H) → Nat
  | [] => 0
  | x :: r => uptoBulkEntry x + uptoBulkEntries r
def uptoBulkEntry {H : Type} : Lit × DataW H → Nat
  | (.string bytes, d) => bytes.length + uptoBulk d + 1
  | (_, d) => uptoBulk d + 1
 end
def uptoSmall : (H : Type) → List (DataW H) → Bool := fun _ ds => decide (uptoBulkAll ds ≤ 1048576)
def OpenSpec.upto (s : _root_.Go.ChangeSpec) : _root_.Go.OpenSpec := { _root_.Go.OpenSpec.ofChange s with cond := some uptoSmall }

/-- 'reportescrowlaw32.CounsellorAway', WHERE WHAT IT READS IS OF BULK AT MOST 1048576: true; the input reads as it did. -/
def counsellorAwayUptoRow : OpenClaim := { program := "ytjckpammcgeloaa", sum := "f244d69df29d3b233390b41ff4cacb2f9489ec4196b4460cc4fa1b37b899d49a", func := "reportescrow/reportescrowlaw32.CounsellorAway", spec := "counsellorAway", unfollowed := true, recurses := true, apart := false, narrowed := true }
def CounsellorAwayUptoSaid : Prop := counsellorAwayUptoRow.holds Try.pinned (OpenSpec.upto counsellorAwaySpec)

/-- 'reportescrowlaw32.CounsellorEven', WHERE WHAT IT READS IS OF BULK AT MOST 1048576: true; the input reads as it did. -/
def counsellorEvenUptoRow : OpenClaim := { program := "ytjckpammcgeloaa", sum := "f244d69df29d3b233390b41ff4cacb2f9489ec4196b4460cc4fa1b37b899d49a", func := "reportescrow/reportescrowlaw32.CounsellorEven", spec := "counsellorEven", unfollowed := true, recurses := true, apart := false, narrowed := true }
def CounsellorEvenUptoSaid : Prop := counsellorEvenUptoRow.holds Try.pinned (OpenSpec.upto counsellorEvenSpec)

/-- 'reportescrowlaw32.CounsellorLeaves', WHERE WHAT IT READS IS OF BULK AT MOST 1048576: true; the input reads as it did. -/
def counsellorLeavesUptoRow : OpenClaim := { program := "ytjckpammcgeloaa", sum := "f244d69df29d3b233390b41ff4cacb2f9489ec4196b4460cc4fa1b37b899d49a", func := "reportescrow/reportescrowlaw32.CounsellorLeaves", spec := "counsellorLeaves", unfollowed := true, recurses := true, apart := false, narrowed := true }
def CounsellorLeavesUptoSaid : Prop := counsellorLeavesUptoRow.holds Try.pinned (OpenSpec.upto counsellorLeavesSpec)

/-- 'reportescrowlaw32.CounsellorRaw', WHERE WHAT IT READS IS OF BULK AT MOST 1048576: true; the input reads as it did. -/
def counsellorRawUptoRow : OpenClaim := { program := "ytjckpammcgeloaa", sum := "f244d69df29d3b233390b41ff4cacb2f9489ec4196b4460cc4fa1b37b899d49a", func := "reportescrow/reportescrowlaw32.CounsellorRaw", spec := "counsellorRaw", unfollowed := true, recurses := true, apart := false, narrowed := true }
def CounsellorRawUptoSaid : Prop := counsellorRawUptoRow.holds Try.pinned (OpenSpec.upto counsellorRawSpec)

/-- 'reportescrowlaw32.CounsellorMade', WHERE WHAT IT READS IS OF BULK AT MOST 1048576: true; the input reads as it did. -/
def counsellorMadeUptoRow : OpenClaim := { program := "ytjckpammcgeloaa", sum := "f244d69df29d3b233390b41ff4cacb2f9489ec4196b4460cc4fa1b37b899d49a", func := "reportescrow/reportescrowlaw32.CounsellorMade", spec := "counsellorMade", unfollowed := true, recurses := true, apart := false, narrowed := true }
def CounsellorMadeUptoSaid : Prop := counsellorMadeUptoRow.holds Try.pinned (OpenSpec.upto counsellorMadeSpec)

end Rows
end Go.Proofs.Ytjckpammcgeloaa
