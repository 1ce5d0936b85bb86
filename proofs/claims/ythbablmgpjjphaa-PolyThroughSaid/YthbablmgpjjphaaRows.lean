/-
  No cell of these rows narrows 'for every input' (looked for: loops, veiled, ifaces, maps, wideKeys, modest, calm, conditions, laid).
  DERIVED. THE GIVEN ROWS OF THIS SEAT. 5 by the template 'for every input the law returns true; each argument reads behind the call as it read before'; 0 by the template 'total and deterministic' (their statements: YthbablmgpjjphaaTotals.lean).
  GIVEN WITH THE SEED: the statements are not yours to turn. If you find one false, say at which input.
  Laid BY PROGRAM, IN A SANDBOX (cutbox-rows.mjs): the forced cells as the released guide's own fill.sh prints them over the translation 67825bf47e170204… (all of the seat's roots in one cut). By AI agents, Wed Nov 11 2026. No macro, syntax, notation, axiom, sorry.
-/
import Derived.Test.YthbablmgpjjphaaChecked
import GoSem.Claim
import GoSem.ClaimJoined
import GoSem.ClaimMapViews
import Derived.JoinedTies
import Derived.KernelRfl
namespace Go.Proofs.Ythbablmgpjjphaa
/- THE CELL 'sum', in the pinned program and in every row, IS THE sha256 OF THE DUMP (.gsa) THAT YthbablmgpjjphaaProg.lean LOADS. Nothing in Lean hashes anything: it is a label: what it is worth is what the hold of that sum in a sandbox is worth. -/
noncomputable def Try.pinned : Pinned := { name := "ythbablmgpjjphaa", sum := "67825bf47e17020465a21da143636aea49a85104016572d16f77a104778ec68e", checked := Try.checked }
namespace Rows
def none {H : Type} : Left H := { results := [], args := [] }

/-- 'reportescrowlaw02.PolyActs': WHATEVER THE INPUT: true; the input reads as it did. -/
def polyActsSpec : ChangeSpec := { name := "polyActs", fn := fun _ => fun
  | [d] => { results := [.lit (.bool true)], args := [d] }
  | _ => none }
def polyActsRow : OpenClaim := { program := "ythbablmgpjjphaa", sum := "67825bf47e17020465a21da143636aea49a85104016572d16f77a104778ec68e", func := "reportescrow/reportescrowlaw02.PolyActs", spec := "polyActs", unfollowed := true, recurses := true, apart := false }
def PolyActsSaid : Prop := polyActsRow.holds Try.pinned (OpenSpec.ofChange polyActsSpec)

/-- ITS FALSE NEIGHBOUR: 'it returns false'. Refute it at one input. -/
def polyActsWrong : ChangeSpec := { name := "polyActs", fn := fun _ => fun
  | [d] => { results := [.lit (.bool false)], args := [d] }
  | _ => none }
def PolyActsWrongFalsely : Prop := polyActsRow.holds Try.pinned (OpenSpec.ofChange polyActsWrong)

/-- 'reportescrowlaw02.PolyDivides': WHATEVER THE INPUT: true; the input reads as it did. -/
def polyDividesSpec : ChangeSpec := { name := "polyDivides", fn := fun _ => fun
  | [d] => { results := [.lit (.bool true)], args := [d] }
  | _ => none }
def polyDividesRow : OpenClaim := { program := "ythbablmgpjjphaa", sum := "67825bf47e17020465a21da143636aea49a85104016572d16f77a104778ec68e", func := "reportescrow/reportescrowlaw02.PolyDivides", spec := "polyDivides", unfollowed := true, recurses := true, apart := false }
def PolyDividesSaid : Prop := polyDividesRow.holds Try.pinned (OpenSpec.ofChange polyDividesSpec)

/-- ITS FALSE NEIGHBOUR: 'it returns false'. Refute it at one input. -/
def polyDividesWrong : ChangeSpec := { name := "polyDivides", fn := fun _ => fun
  | [d] => { results := [.lit (.bool false)], args := [d] }
  | _ => none }
def PolyDividesWrongFalsely : Prop := polyDividesRow.holds Try.pinned (OpenSpec.ofChange polyDividesWrong)

/-- 'reportescrowlaw02.PolyWeights': WHATEVER THE INPUT: true; the input reads as it did. -/
def polyWeightsSpec : ChangeSpec := { name := "polyWeights", fn := fun _ => fun
  | [d1, d2] => { results := [.lit (.bool true)], args := [d1, d2] }
  | _ => none }
def polyWeightsRow : OpenClaim := { program := "ythbablmgpjjphaa", sum := "67825bf47e17020465a21da143636aea49a85104016572d16f77a104778ec68e", func := "reportescrow/reportescrowlaw02.PolyWeights", spec := "polyWeights", unfollowed := true, recurses := true, apart := false }
def PolyWeightsSaid : Prop := polyWeightsRow.holds Try.pinned (OpenSpec.ofChange polyWeightsSpec)

/-- ITS FALSE NEIGHBOUR: 'it returns false'. Refute it at one input. -/
def polyWeightsWrong : ChangeSpec := { name := "polyWeights", fn := fun _ => fun
  | [d1, d2] => { results := [.lit (.bool false)], args := [d1, d2] }
  | _ => none }
def PolyWeightsWrongFalsely : Prop := polyWeightsRow.holds Try.pinned (OpenSpec.ofChange polyWeightsWrong)

/-- 'reportescrowlaw02.PolyPoints': WHATEVER THE INPUT: true; the input reads as it did. -/
def polyPointsSpec : ChangeSpec := { name := "polyPoints", fn := fun _ => fun
  | [d] => { results := [.lit (.bool true)], args := [d] }
  | _ => none }
def polyPointsRow : OpenClaim := { program := "ythbablmgpjjphaa", sum := "67825bf47e17020465a21da143636aea49a85104016572d16f77a104778ec68e", func := "reportescrow/reportescrowlaw02.PolyPoints", spec := "polyPoints", unfollowed := true, recurses := true, apart := false }
def PolyPointsSaid : Prop := polyPointsRow.holds Try.pinned (OpenSpec.ofChange polyPointsSpec)

/-- ITS FALSE NEIGHBOUR: 'it returns false'. Refute it at one input. -/
def polyPointsWrong : ChangeSpec := { name := "polyPoints", fn := fun _ => fun
  | [d] => { results := [.lit (.bool false)], args := [d] }
  | _ => none }
def PolyPointsWrongFalsely : Prop := polyPointsRow.holds Try.pinned (OpenSpec.ofChange polyPointsWrong)

/-- 'reportescrowlaw02.PolyThrough': WHATEVER THE INPUT: true; the input reads as it did. -/
def polyThroughSpec : ChangeSpec := { name := "polyThrough", fn := fun _ => fun
  | [d] => { results := [.lit (.bool true)], args := [d] }
  | _ => none }
def polyThroughRow : OpenClaim := { program := "ythbablmgpjjphaa", sum := "67825bf47e17020465a21da143636aea49a85104016572d16f77a104778ec68e", func := "reportescrow/reportescrowlaw02.PolyThrough", spec := "polyThrough", unfollowed := true, recurses := true, apart := false }
def PolyThroughSaid : Prop := polyThroughRow.holds Try.pinned (OpenSpec.ofChange polyThroughSpec)

/-- ITS FALSE NEIGHBOUR: 'it returns false'. Refute it at one input. -/
def polyThroughWrong : ChangeSpec := { name := "polyThrough", fn := fun _ => fun
  | [d] => { results := [.lit (.bool false)], args := [d] }
  | _ => none }
def PolyThroughWrongFalsely : Prop := polyThroughRow.holds Try.pinned (OpenSpec.ofChange polyThroughWrong)

/- THE SECOND FORM. 'bulk': how many values and letters a reading holds, each counted each time it is reached (what is shared counts as often as it is met; a slice's spare places count too). A statement '..UptoSaid' is the law's where the arguments, and the package variables that the reading takes, are together of bulk at most 1048576: NARROWER than '..Said'. Prove '..Said' where nothing that the law and all that it calls make is longer than what came in: it says more and counts as full. Else prove '..UptoSaid'. A law counts once. -/
mutual
def uptoBulk {H : Type} : DataW H → Nat
  | .lit (.string bytes) => bytes.length + 1
  | .lit _ => 1
  | .nil => 1
  | .ptr d => uptoBulk d + 1
  | .slice elems spare => uptoBulkAll elems + uptoBulkAll spare + 1
  | .agg parts => uptoBulkAll parts + 1
  | .iface _ d => uptoBulk d + 1
  | .map entries => uptoBulkEntries entries + 1
  | .held _ => 1
def uptoBulkAll {H : Type} : List (DataW H) → Nat
  | [] => 0
  | d :: r => uptoBulk d + uptoBulkAll r
def uptoBulkEntries {H : Type} : List (Lit × DataW H) → Nat
  | [] => 0
  | x :: r => uptoBulkEntry x + uptoBulkEntries r
def uptoBulkEntry {H : Type} : Lit × DataW H → Nat
  | (.string bytes, d) => bytes.length + uptoBulk d + 1
  | (_, d) => uptoBulk d + 1
 end
def uptoSmall : (H : Type) → List (DataW H) → Bool := fun _ ds => decide (uptoBulkAll ds ≤ 1048576)
def OpenSpec.upto (s : _root_.Go.ChangeSpec) : _root_.Go.OpenSpec := { _root_.Go.OpenSpec.ofChange s with cond := some uptoSmall }

/-- 'reportescrowlaw02.PolyActs', WHERE WHAT IT READS IS OF BULK AT MOST 1048576: true; the input reads as it did. -/
def polyActsUptoRow : OpenClaim := { program := "ythbablmgpjjphaa", sum := "67825bf47e17020465a21da143636aea49a85104016572d16f77a104778ec68e", func := "reportescrow/reportescrowlaw02.PolyActs", spec := "polyActs", unfollowed := true, recurses := true, apart := false, narrowed := true }
def PolyActsUptoSaid : Prop := polyActsUptoRow.holds Try.pinned (OpenSpec.upto polyActsSpec)

/-- 'reportescrowlaw02.PolyDivides', WHERE WHAT IT READS IS OF BULK AT MOST 1048576: true; the input reads as it did. -/
def polyDividesUptoRow : OpenClaim := { program := "ythbablmgpjjphaa", sum := "67825bf47e17020465a21da143636aea49a85104016572d16f77a104778ec68e", func := "reportescrow/reportescrowlaw02.PolyDivides", spec := "polyDivides", unfollowed := true, recurses := true, apart := false, narrowed := true }
def PolyDividesUptoSaid : Prop := polyDividesUptoRow.holds Try.pinned (OpenSpec.upto polyDividesSpec)

/-- 'reportescrowlaw02.PolyWeights', WHERE WHAT IT READS IS OF BULK AT MOST 1048576: true; the input reads as it did. -/
def polyWeightsUptoRow : OpenClaim := { program := "ythbablmgpjjphaa", sum := "67825bf47e17020465a21da143636aea49a85104016572d16f77a104778ec68e", func := "reportescrow/reportescrowlaw02.PolyWeights", spec := "polyWeights", unfollowed := true, recurses := true, apart := false, narrowed := true }
def PolyWeightsUptoSaid : Prop := polyWeightsUptoRow.holds Try.pinned (OpenSpec.upto polyWeightsSpec)

/-- 'reportescrowlaw02.PolyPoints', WHERE WHAT IT READS IS OF BULK AT MOST 1048576: true; the input reads as it did. -/
def polyPointsUptoRow : OpenClaim := { program := "ythbablmgpjjphaa", sum := "67825bf47e17020465a21da143636aea49a85104016572d16f77a104778ec68e", func := "reportescrow/reportescrowlaw02.PolyPoints", spec := "polyPoints", unfollowed := true, recurses := true, apart := false, narrowed := true }
def PolyPointsUptoSaid : Prop := polyPointsUptoRow.holds Try.pinned (OpenSpec.upto polyPointsSpec)

/-- 'reportescrowlaw02.PolyThrough', WHERE WHAT IT READS IS OF BULK AT MOST 1048576: true; the input reads as it did. -/
def polyThroughUptoRow : OpenClaim := { program := "ythbablmgpjjphaa", sum := "67825bf47e17020465a21da143636aea49a85104016572d16f77a104778ec68e", func := "reportescrow/reportescrowlaw02.PolyThrough", spec := "polyThrough", unfollowed := true, recurses := true, apart := false, narrowed := true }
def PolyThroughUptoSaid : Prop := polyThroughUptoRow.holds Try.pinned (OpenSpec.upto polyThroughSpec)

end Rows
end Go.Proofs.Ythbablmgpjjphaa
