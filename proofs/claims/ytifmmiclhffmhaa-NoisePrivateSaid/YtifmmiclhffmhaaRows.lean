/-
  No cell of these rows narrows 'for every input' (looked for: loops, veiled, ifaces, maps, wideKeys, modest, calm, conditions, laid).
  DERIVED. THE GIVEN ROWS OF THIS SEAT. 5 by the template 'for every input the law returns true; each argument reads behind the call as it read before'; 0 by the template 'total and deterministic' (their statements: YtifmmiclhffmhaaTotals.lean).
  GIVEN WITH THE SEED: the statements are not yours to turn. If you find one false, say at which input.
  Laid BY PROGRAM, IN A SANDBOX (cutbox-rows.mjs): the forced cells as the released guide's own fill.sh prints them over the translation f08e59603f492def… (all of the seat's roots in one cut). By AI agents, Wed Nov 11 2026. No macro, syntax, notation, axiom, sorry.
-/
import Derived.Test.YtifmmiclhffmhaaChecked
import GoSem.Claim
import GoSem.ClaimJoined
import GoSem.ClaimMapViews
import Derived.JoinedTies
import Derived.KernelRfl
namespace Go.Proofs.Ytifmmiclhffmhaa
/- THE CELL 'sum', in the pinned program and in every row, IS THE sha256 OF THE DUMP (.gsa) THAT YtifmmiclhffmhaaProg.lean LOADS. Nothing in Lean hashes anything: it is a label: what it is worth is what the hold of that sum in a sandbox is worth. -/
noncomputable def Try.pinned : Pinned := { name := "ytifmmiclhffmhaa", sum := "f08e59603f492defb5a1996236f6aded5526010157fbcedb80f9594050c8612c", checked := Try.checked }
namespace Rows
def none {H : Type} : Left H := { results := [], args := [] }

/-- 'reportescrowlaw38.NoiseAdds': WHATEVER THE INPUT: true; the input reads as it did. -/
def noiseAddsSpec : ChangeSpec := { name := "noiseAdds", fn := fun _ => fun
  | [d] => { results := [.lit (.bool true)], args := [d] }
  | _ => none }
def noiseAddsRow : OpenClaim := { program := "ytifmmiclhffmhaa", sum := "f08e59603f492defb5a1996236f6aded5526010157fbcedb80f9594050c8612c", func := "reportescrow/reportescrowlaw38.NoiseAdds", spec := "noiseAdds", apart := false }
def NoiseAddsSaid : Prop := noiseAddsRow.holds Try.pinned (OpenSpec.ofChange noiseAddsSpec)

/-- ITS FALSE NEIGHBOUR: 'it returns false'. Refute it at one input. -/
def noiseAddsWrong : ChangeSpec := { name := "noiseAdds", fn := fun _ => fun
  | [d] => { results := [.lit (.bool false)], args := [d] }
  | _ => none }
def NoiseAddsWrongFalsely : Prop := noiseAddsRow.holds Try.pinned (OpenSpec.ofChange noiseAddsWrong)

/-- 'reportescrowlaw38.NoiseNear': WHATEVER THE INPUT: true; the input reads as it did. -/
def noiseNearSpec : ChangeSpec := { name := "noiseNear", fn := fun _ => fun
  | [d1, d2, d3] => { results := [.lit (.bool true)], args := [d1, d2, d3] }
  | _ => none }
def noiseNearRow : OpenClaim := { program := "ytifmmiclhffmhaa", sum := "f08e59603f492defb5a1996236f6aded5526010157fbcedb80f9594050c8612c", func := "reportescrow/reportescrowlaw38.NoiseNear", spec := "noiseNear", apart := false }
def NoiseNearSaid : Prop := noiseNearRow.holds Try.pinned (OpenSpec.ofChange noiseNearSpec)

/-- ITS FALSE NEIGHBOUR: 'it returns false'. Refute it at one input. -/
def noiseNearWrong : ChangeSpec := { name := "noiseNear", fn := fun _ => fun
  | [d1, d2, d3] => { results := [.lit (.bool false)], args := [d1, d2, d3] }
  | _ => none }
def NoiseNearWrongFalsely : Prop := noiseNearRow.holds Try.pinned (OpenSpec.ofChange noiseNearWrong)

/-- 'reportescrowlaw38.NoiseRaw': WHATEVER THE INPUT: true; the input reads as it did. -/
def noiseRawSpec : ChangeSpec := { name := "noiseRaw", fn := fun _ => fun
  | [d1, d2, d3] => { results := [.lit (.bool true)], args := [d1, d2, d3] }
  | _ => none }
def noiseRawRow : OpenClaim := { program := "ytifmmiclhffmhaa", sum := "f08e59603f492defb5a1996236f6aded5526010157fbcedb80f9594050c8612c", func := "reportescrow/reportescrowlaw38.NoiseRaw", spec := "noiseRaw", apart := false }
def NoiseRawSaid : Prop := noiseRawRow.holds Try.pinned (OpenSpec.ofChange noiseRawSpec)

/-- ITS FALSE NEIGHBOUR: 'it returns false'. Refute it at one input. -/
def noiseRawWrong : ChangeSpec := { name := "noiseRaw", fn := fun _ => fun
  | [d1, d2, d3] => { results := [.lit (.bool false)], args := [d1, d2, d3] }
  | _ => none }
def NoiseRawWrongFalsely : Prop := noiseRawRow.holds Try.pinned (OpenSpec.ofChange noiseRawWrong)

/-- 'reportescrowlaw38.NoiseMade': WHATEVER THE INPUT: true; the input reads as it did. -/
def noiseMadeSpec : ChangeSpec := { name := "noiseMade", fn := fun _ => fun
  | [d] => { results := [.lit (.bool true)], args := [d] }
  | _ => none }
def noiseMadeRow : OpenClaim := { program := "ytifmmiclhffmhaa", sum := "f08e59603f492defb5a1996236f6aded5526010157fbcedb80f9594050c8612c", func := "reportescrow/reportescrowlaw38.NoiseMade", spec := "noiseMade", apart := false }
def NoiseMadeSaid : Prop := noiseMadeRow.holds Try.pinned (OpenSpec.ofChange noiseMadeSpec)

/-- ITS FALSE NEIGHBOUR: 'it returns false'. Refute it at one input. -/
def noiseMadeWrong : ChangeSpec := { name := "noiseMade", fn := fun _ => fun
  | [d] => { results := [.lit (.bool false)], args := [d] }
  | _ => none }
def NoiseMadeWrongFalsely : Prop := noiseMadeRow.holds Try.pinned (OpenSpec.ofChange noiseMadeWrong)

/-- 'reportescrowlaw38.NoisePrivate': WHATEVER THE INPUT: true; the input reads as it did. -/
def noisePrivateSpec : ChangeSpec := { name := "noisePrivate", fn := fun _ => fun
  | [d] => { results := [.lit (.bool true)], args := [d] }
  | _ => none }
def noisePrivateRow : OpenClaim := { program := "ytifmmiclhffmhaa", sum := "f08e59603f492defb5a1996236f6aded5526010157fbcedb80f9594050c8612c", func := "reportescrow/reportescrowlaw38.NoisePrivate", spec := "noisePrivate", apart := false }
def NoisePrivateSaid : Prop := noisePrivateRow.holds Try.pinned (OpenSpec.ofChange noisePrivateSpec)

/-- ITS FALSE NEIGHBOUR: 'it returns false'. Refute it at one input. -/
def noisePrivateWrong : ChangeSpec := { name := "noisePrivate", fn := fun _ => fun
  | [d] => { results := [.lit (.bool false)], args := [d] }
  | _ => none }
def NoisePrivateWrongFalsely : Prop := noisePrivateRow.holds Try.pinned (OpenSpec.ofChange noisePrivateWrong)

/- THE SECOND FORM. 'bulk': how many values and letters a reading holds, each counted each time it is reached (what is shared counts as often as it is met; a slice's spare places count too). A statement '..UptoSaid' is the law's where the arguments, and the package variables that the reading takes, are together of bulk at most 1048576: NARROWER than '..Said'. Prove '..Said' where nothing that the law and all that it calls make is longer than what came in: it says more and counts as full. Else prove '..UptoSaid'. A law counts once. -/
mutual
def uptoBulk {H : Type} : DataW H → Nat
  | .lit (.string bytes) => bytes.length + 1
  | .lit _ => 1
  | .nil => 1
  | .ptr d => uptoBulk d + 1
  | .slice elems spare => uptoBulkAll elems + uptoBulkAll spare + 1
  | .agg parts => uptoBulkAll parts + 1
  | .iface _ d => uptoBulk d + 1
  | .map entries => uptoBulkEntries entries + 1
  | .held _ => 1
def uptoBulkAll {H : Type} : List (DataW H) → Nat
  | [] => 0
  | d :: r => uptoBulk d + uptoBulkAll r
def uptoBulkEntries {H : Type} : List (Lit × DataW H) → Nat
  | [] => 0
  | x :: r => uptoBulkEntry x + uptoBulkEntries r
def uptoBulkEntry {H : Type} : Lit × DataW H → Nat
  | (.string bytes, d) => bytes.length + uptoBulk d + 1
  | (_, d) => uptoBulk d + 1
 end
def uptoSmall : (H : Type) → List (DataW H) → Bool := fun _ ds => decide (uptoBulkAll ds ≤ 1048576)
def OpenSpec.upto (s : _root_.Go.ChangeSpec) : _root_.Go.OpenSpec := { _root_.Go.OpenSpec.ofChange s with cond := some uptoSmall }

/-- 'reportescrowlaw38.NoiseAdds', WHERE WHAT IT READS IS OF BULK AT MOST 1048576: true; the input reads as it did. -/
def noiseAddsUptoRow : OpenClaim := { program := "ytifmmiclhffmhaa", sum := "f08e59603f492defb5a1996236f6aded5526010157fbcedb80f9594050c8612c", func := "reportescrow/reportescrowlaw38.NoiseAdds", spec := "noiseAdds", apart := false, narrowed := true }
def NoiseAddsUptoSaid : Prop := noiseAddsUptoRow.holds Try.pinned (OpenSpec.upto noiseAddsSpec)

/-- 'reportescrowlaw38.NoiseNear', WHERE WHAT IT READS IS OF BULK AT MOST 1048576: true; the input reads as it did. -/
def noiseNearUptoRow : OpenClaim := { program := "ytifmmiclhffmhaa", sum := "f08e59603f492defb5a1996236f6aded5526010157fbcedb80f9594050c8612c", func := "reportescrow/reportescrowlaw38.NoiseNear", spec := "noiseNear", apart := false, narrowed := true }
def NoiseNearUptoSaid : Prop := noiseNearUptoRow.holds Try.pinned (OpenSpec.upto noiseNearSpec)

/-- 'reportescrowlaw38.NoiseRaw', WHERE WHAT IT READS IS OF BULK AT MOST 1048576: true; the input reads as it did. -/
def noiseRawUptoRow : OpenClaim := { program := "ytifmmiclhffmhaa", sum := "f08e59603f492defb5a1996236f6aded5526010157fbcedb80f9594050c8612c", func := "reportescrow/reportescrowlaw38.NoiseRaw", spec := "noiseRaw", apart := false, narrowed := true }
def NoiseRawUptoSaid : Prop := noiseRawUptoRow.holds Try.pinned (OpenSpec.upto noiseRawSpec)

/-- 'reportescrowlaw38.NoiseMade', WHERE WHAT IT READS IS OF BULK AT MOST 1048576: true; the input reads as it did. -/
def noiseMadeUptoRow : OpenClaim := { program := "ytifmmiclhffmhaa", sum := "f08e59603f492defb5a1996236f6aded5526010157fbcedb80f9594050c8612c", func := "reportescrow/reportescrowlaw38.NoiseMade", spec := "noiseMade", apart := false, narrowed := true }
def NoiseMadeUptoSaid : Prop := noiseMadeUptoRow.holds Try.pinned (OpenSpec.upto noiseMadeSpec)

/-- 'reportescrowlaw38.NoisePrivate', WHERE WHAT IT READS IS OF BULK AT MOST 1048576: true; the input reads as it did. -/
def noisePrivateUptoRow : OpenClaim := { program := "ytifmmiclhffmhaa", sum := "f08e59603f492defb5a1996236f6aded5526010157fbcedb80f9594050c8612c", func := "reportescrow/reportescrowlaw38.NoisePrivate", spec := "noisePrivate", apart := false, narrowed := true }
def NoisePrivateUptoSaid : Prop := noisePrivateUptoRow.holds Try.pinned (OpenSpec.upto noisePrivateSpec)

end Rows
end Go.Proofs.Ytifmmiclhffmhaa
