/-
  The kernel's checks of multiples of primes, part 3.
-/
import Derived.Test.YthbablmgpjjphaaDoorMrC
namespace Go.Proofs.YthbablmgpjjphaaDoor
theorem chks_180 : chks 180 5 = true := by kernel_rfl
theorem chks_196 : chks 196 7 = true := by kernel_rfl
theorem chks_226 : chks 226 6 = true := by kernel_rfl
theorem chks_330 : chks 330 18 = true := by kernel_rfl
theorem chks_478 : chks 478 49 = true := by kernel_rfl
theorem chks_5288 : chks 5288 400 = true := by kernel_rfl
theorem chks_7688 : chks 7688 400 = true := by kernel_rfl
theorem chks_12488 : chks 12488 400 = true := by kernel_rfl
theorem chks_16488 : chks 16488 400 = true := by kernel_rfl
theorem chks_18888 : chks 18888 400 = true := by kernel_rfl
theorem chks_19688 : chks 19688 400 = true := by kernel_rfl
theorem chks_23688 : chks 23688 400 = true := by kernel_rfl
theorem chks_29288 : chks 29288 400 = true := by kernel_rfl
theorem chks_30088 : chks 30088 400 = true := by kernel_rfl
end Go.Proofs.YthbablmgpjjphaaDoor
