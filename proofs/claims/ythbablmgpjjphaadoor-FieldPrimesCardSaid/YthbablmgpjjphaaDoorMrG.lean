/-
  The kernel's check of large primes times small numbers.
-/
import Derived.Test.YthbablmgpjjphaaDoorMrD
namespace Go.Proofs.YthbablmgpjjphaaDoor
theorem dfsA : frc PP (fun P => dfs (chkA P) 32767 5 1 [11, 13, 17, 19, 23, 29, 31, 37, 41, 43, 47, 53, 59, 61, 67, 71, 73, 79, 83, 89, 97, 101, 103, 107, 109, 113, 127, 131, 137, 139, 149, 151, 157, 163, 167, 173, 179, 181]) = true := by kernel_rfl
end Go.Proofs.YthbablmgpjjphaaDoor
