/-
  The kernel's checks of multiples of primes, part 1.
-/
import Derived.Test.YthbablmgpjjphaaDoorMrC
namespace Go.Proofs.YthbablmgpjjphaaDoor
theorem chks_276 : chks 276 15 = true := by kernel_rfl
theorem chks_366 : chks 366 26 = true := by kernel_rfl
theorem chks_576 : chks 576 66 = true := by kernel_rfl
theorem chks_1302 : chks 1302 393 = true := by kernel_rfl
theorem chks_3688 : chks 3688 400 = true := by kernel_rfl
theorem chks_6088 : chks 6088 400 = true := by kernel_rfl
theorem chks_6888 : chks 6888 400 = true := by kernel_rfl
theorem chks_10888 : chks 10888 400 = true := by kernel_rfl
theorem chks_13288 : chks 13288 400 = true := by kernel_rfl
theorem chks_14888 : chks 14888 400 = true := by kernel_rfl
theorem chks_18088 : chks 18088 400 = true := by kernel_rfl
theorem chks_24488 : chks 24488 400 = true := by kernel_rfl
theorem chks_26088 : chks 26088 400 = true := by kernel_rfl
theorem chks_27688 : chks 27688 400 = true := by kernel_rfl
end Go.Proofs.YthbablmgpjjphaaDoor
