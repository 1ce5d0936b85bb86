/-
  The kernel's checks of multiples of primes, part 2.
-/
import Derived.Test.YthbablmgpjjphaaDoorMrC
namespace Go.Proofs.YthbablmgpjjphaaDoor
theorem chks_190 : chks 190 3 = true := by kernel_rfl
theorem chks_210 : chks 210 8 = true := by kernel_rfl
theorem chks_418 : chks 418 30 = true := by kernel_rfl
theorem chks_936 : chks 936 183 = true := by kernel_rfl
theorem chks_2088 : chks 2088 400 = true := by kernel_rfl
theorem chks_8488 : chks 8488 400 = true := by kernel_rfl
theorem chks_9288 : chks 9288 400 = true := by kernel_rfl
theorem chks_10088 : chks 10088 400 = true := by kernel_rfl
theorem chks_20488 : chks 20488 400 = true := by kernel_rfl
theorem chks_21288 : chks 21288 400 = true := by kernel_rfl
theorem chks_22088 : chks 22088 400 = true := by kernel_rfl
theorem chks_22888 : chks 22888 400 = true := by kernel_rfl
theorem chks_31688 : chks 31688 400 = true := by kernel_rfl
theorem chks_32488 : chks 32488 140 = true := by kernel_rfl
end Go.Proofs.YthbablmgpjjphaaDoor
