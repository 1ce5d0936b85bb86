/-
  The kernel's checks of multiples of primes, part 4.
-/
import Derived.Test.YthbablmgpjjphaaDoorMrC
namespace Go.Proofs.YthbablmgpjjphaaDoor
theorem chks_238 : chks 238 9 = true := by kernel_rfl
theorem chks_256 : chks 256 10 = true := by kernel_rfl
theorem chks_306 : chks 306 12 = true := by kernel_rfl
theorem chks_708 : chks 708 114 = true := by kernel_rfl
theorem chks_2888 : chks 2888 400 = true := by kernel_rfl
theorem chks_4488 : chks 4488 400 = true := by kernel_rfl
theorem chks_11688 : chks 11688 400 = true := by kernel_rfl
theorem chks_14088 : chks 14088 400 = true := by kernel_rfl
theorem chks_15688 : chks 15688 400 = true := by kernel_rfl
theorem chks_17288 : chks 17288 400 = true := by kernel_rfl
theorem chks_25288 : chks 25288 400 = true := by kernel_rfl
theorem chks_26888 : chks 26888 400 = true := by kernel_rfl
theorem chks_28488 : chks 28488 400 = true := by kernel_rfl
theorem chks_30888 : chks 30888 400 = true := by kernel_rfl
end Go.Proofs.YthbablmgpjjphaaDoor
