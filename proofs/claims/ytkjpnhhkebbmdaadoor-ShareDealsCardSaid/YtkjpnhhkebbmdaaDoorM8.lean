/-
  The kernel's checks of products of small primes.
  The kernel's check of large primes times small numbers.
  What passes the program's test is prime.
  The program's test of a prime and the document's agree on every number.
  ShareDeals: what stands in memory; what is dealt is short.
  ShareDeals: the walk.
  A slice of numbers that came in reads as a list.
  Lists of numbers that came in, with what is known of their room.
  Conditions: those that each theorem names.
-/
import Derived.Test.YtkjpnhhkebbmdaaDoorM7
set_option linter.unusedVariables false
set_option linter.unusedSimpArgs false
namespace Go.Proofs.YtkjpnhhkebbmdaaDoor
theorem dfs_11 : dfs tstQ 1073741824 8 11 [11, 13, 17, 19, 23, 29, 31, 37, 41, 43, 47, 53, 59, 61, 67, 71, 73, 79, 83, 89, 97, 101, 103, 107, 109, 113, 127, 131, 137, 139, 149, 151, 157, 163, 167, 173, 179, 181] = true := by kernel_rfl
theorem dfs_13 : dfs tstQ 1073741824 8 13 [13, 17, 19, 23, 29, 31, 37, 41, 43, 47, 53, 59, 61, 67, 71, 73, 79, 83, 89, 97, 101, 103, 107, 109, 113, 127, 131, 137, 139, 149, 151, 157, 163, 167, 173, 179, 181] = true := by kernel_rfl
theorem dfs_17 : dfs tstQ 1073741824 8 17 [17, 19, 23, 29, 31, 37, 41, 43, 47, 53, 59, 61, 67, 71, 73, 79, 83, 89, 97, 101, 103, 107, 109, 113, 127, 131, 137, 139, 149, 151, 157, 163, 167, 173, 179, 181] = true := by kernel_rfl
theorem dfs_19 : dfs tstQ 1073741824 8 19 [19, 23, 29, 31, 37, 41, 43, 47, 53, 59, 61, 67, 71, 73, 79, 83, 89, 97, 101, 103, 107, 109, 113, 127, 131, 137, 139, 149, 151, 157, 163, 167, 173, 179, 181] = true := by kernel_rfl
theorem dfs_23 : dfs tstQ 1073741824 8 23 [23, 29, 31, 37, 41, 43, 47, 53, 59, 61, 67, 71, 73, 79, 83, 89, 97, 101, 103, 107, 109, 113, 127, 131, 137, 139, 149, 151, 157, 163, 167, 173, 179, 181] = true := by kernel_rfl
theorem dfs_29 : dfs tstQ 1073741824 8 29 [29, 31, 37, 41, 43, 47, 53, 59, 61, 67, 71, 73, 79, 83, 89, 97, 101, 103, 107, 109, 113, 127, 131, 137, 139, 149, 151, 157, 163, 167, 173, 179, 181] = true := by kernel_rfl
theorem dfs_31 : dfs tstQ 1073741824 8 31 [31, 37, 41, 43, 47, 53, 59, 61, 67, 71, 73, 79, 83, 89, 97, 101, 103, 107, 109, 113, 127, 131, 137, 139, 149, 151, 157, 163, 167, 173, 179, 181] = true := by kernel_rfl
theorem dfs_37 : dfs tstQ 1073741824 8 37 [37, 41, 43, 47, 53, 59, 61, 67, 71, 73, 79, 83, 89, 97, 101, 103, 107, 109, 113, 127, 131, 137, 139, 149, 151, 157, 163, 167, 173, 179, 181] = true := by kernel_rfl
theorem dfs_41 : dfs tstQ 1073741824 8 41 [41, 43, 47, 53, 59, 61, 67, 71, 73, 79, 83, 89, 97, 101, 103, 107, 109, 113, 127, 131, 137, 139, 149, 151, 157, 163, 167, 173, 179, 181] = true := by kernel_rfl
theorem dfs_43 : dfs tstQ 1073741824 8 43 [43, 47, 53, 59, 61, 67, 71, 73, 79, 83, 89, 97, 101, 103, 107, 109, 113, 127, 131, 137, 139, 149, 151, 157, 163, 167, 173, 179, 181] = true := by kernel_rfl
theorem dfs_47 : dfs tstQ 1073741824 8 47 [47, 53, 59, 61, 67, 71, 73, 79, 83, 89, 97, 101, 103, 107, 109, 113, 127, 131, 137, 139, 149, 151, 157, 163, 167, 173, 179, 181] = true := by kernel_rfl
theorem dfs_53 : dfs tstQ 1073741824 8 53 [53, 59, 61, 67, 71, 73, 79, 83, 89, 97, 101, 103, 107, 109, 113, 127, 131, 137, 139, 149, 151, 157, 163, 167, 173, 179, 181] = true := by kernel_rfl
theorem dfs_59 : dfs tstQ 1073741824 8 59 [59, 61, 67, 71, 73, 79, 83, 89, 97, 101, 103, 107, 109, 113, 127, 131, 137, 139, 149, 151, 157, 163, 167, 173, 179, 181] = true := by kernel_rfl
theorem dfs_61 : dfs tstQ 1073741824 8 61 [61, 67, 71, 73, 79, 83, 89, 97, 101, 103, 107, 109, 113, 127, 131, 137, 139, 149, 151, 157, 163, 167, 173, 179, 181] = true := by kernel_rfl
theorem dfs_67 : dfs tstQ 1073741824 8 67 [67, 71, 73, 79, 83, 89, 97, 101, 103, 107, 109, 113, 127, 131, 137, 139, 149, 151, 157, 163, 167, 173, 179, 181] = true := by kernel_rfl
theorem dfs_71 : dfs tstQ 1073741824 8 71 [71, 73, 79, 83, 89, 97, 101, 103, 107, 109, 113, 127, 131, 137, 139, 149, 151, 157, 163, 167, 173, 179, 181] = true := by kernel_rfl
theorem dfs_73 : dfs tstQ 1073741824 8 73 [73, 79, 83, 89, 97, 101, 103, 107, 109, 113, 127, 131, 137, 139, 149, 151, 157, 163, 167, 173, 179, 181] = true := by kernel_rfl
theorem dfs_79 : dfs tstQ 1073741824 8 79 [79, 83, 89, 97, 101, 103, 107, 109, 113, 127, 131, 137, 139, 149, 151, 157, 163, 167, 173, 179, 181] = true := by kernel_rfl
theorem dfs_83 : dfs tstQ 1073741824 8 83 [83, 89, 97, 101, 103, 107, 109, 113, 127, 131, 137, 139, 149, 151, 157, 163, 167, 173, 179, 181] = true := by kernel_rfl
theorem dfs_89 : dfs tstQ 1073741824 8 89 [89, 97, 101, 103, 107, 109, 113, 127, 131, 137, 139, 149, 151, 157, 163, 167, 173, 179, 181] = true := by kernel_rfl
theorem dfs_97 : dfs tstQ 1073741824 8 97 [97, 101, 103, 107, 109, 113, 127, 131, 137, 139, 149, 151, 157, 163, 167, 173, 179, 181] = true := by kernel_rfl
theorem dfs_101 : dfs tstQ 1073741824 8 101 [101, 103, 107, 109, 113, 127, 131, 137, 139, 149, 151, 157, 163, 167, 173, 179, 181] = true := by kernel_rfl
theorem dfs_103 : dfs tstQ 1073741824 8 103 [103, 107, 109, 113, 127, 131, 137, 139, 149, 151, 157, 163, 167, 173, 179, 181] = true := by kernel_rfl
theorem dfs_107 : dfs tstQ 1073741824 8 107 [107, 109, 113, 127, 131, 137, 139, 149, 151, 157, 163, 167, 173, 179, 181] = true := by kernel_rfl
theorem dfs_109 : dfs tstQ 1073741824 8 109 [109, 113, 127, 131, 137, 139, 149, 151, 157, 163, 167, 173, 179, 181] = true := by kernel_rfl
theorem dfs_113 : dfs tstQ 1073741824 8 113 [113, 127, 131, 137, 139, 149, 151, 157, 163, 167, 173, 179, 181] = true := by kernel_rfl
theorem dfs_127 : dfs tstQ 1073741824 8 127 [127, 131, 137, 139, 149, 151, 157, 163, 167, 173, 179, 181] = true := by kernel_rfl
theorem dfs_131 : dfs tstQ 1073741824 8 131 [131, 137, 139, 149, 151, 157, 163, 167, 173, 179, 181] = true := by kernel_rfl
theorem dfs_137 : dfs tstQ 1073741824 8 137 [137, 139, 149, 151, 157, 163, 167, 173, 179, 181] = true := by kernel_rfl
theorem dfs_139 : dfs tstQ 1073741824 8 139 [139, 149, 151, 157, 163, 167, 173, 179, 181] = true := by kernel_rfl
theorem dfs_149 : dfs tstQ 1073741824 8 149 [149, 151, 157, 163, 167, 173, 179, 181] = true := by kernel_rfl
theorem dfs_151 : dfs tstQ 1073741824 8 151 [151, 157, 163, 167, 173, 179, 181] = true := by kernel_rfl
theorem dfs_157 : dfs tstQ 1073741824 8 157 [157, 163, 167, 173, 179, 181] = true := by kernel_rfl
theorem dfs_163 : dfs tstQ 1073741824 8 163 [163, 167, 173, 179, 181] = true := by kernel_rfl
theorem dfs_167 : dfs tstQ 1073741824 8 167 [167, 173, 179, 181] = true := by kernel_rfl
theorem dfs_173 : dfs tstQ 1073741824 8 173 [173, 179, 181] = true := by kernel_rfl
theorem dfs_179 : dfs tstQ 1073741824 8 179 [179, 181] = true := by kernel_rfl
theorem dfs_181 : dfs tstQ 1073741824 8 181 [181] = true := by kernel_rfl
theorem allS_Q : AllS tstQ 1073741824 8 [11, 13, 17, 19, 23, 29, 31, 37, 41, 43, 47, 53, 59, 61, 67, 71, 73, 79, 83, 89, 97, 101, 103, 107, 109, 113, 127, 131, 137, 139, 149, 151, 157, 163, 167, 173, 179, 181] := ⟨dfs_11, dfs_13, dfs_17, dfs_19, dfs_23, dfs_29, dfs_31, dfs_37, dfs_41, dfs_43, dfs_47, dfs_53, dfs_59, dfs_61, dfs_67, dfs_71, dfs_73, dfs_79, dfs_83, dfs_89, dfs_97, dfs_101, dfs_103, dfs_107, dfs_109, dfs_113, dfs_127, dfs_131, dfs_137, dfs_139, dfs_149, dfs_151, dfs_157, dfs_163, dfs_167, dfs_173, dfs_179, dfs_181, True.intro⟩
end Go.Proofs.YtkjpnhhkebbmdaaDoor
namespace Go.Proofs.YtkjpnhhkebbmdaaDoor
theorem dfsA : frc PP (fun P => dfs (chkA P) 32767 5 1 [11, 13, 17, 19, 23, 29, 31, 37, 41, 43, 47, 53, 59, 61, 67, 71, 73, 79, 83, 89, 97, 101, 103, 107, 109, 113, 127, 131, 137, 139, 149, 151, 157, 163, 167, 173, 179, 181]) = true := by kernel_rfl
end Go.Proofs.YtkjpnhhkebbmdaaDoor
namespace Go.Proofs.YtkjpnhhkebbmdaaDoor

theorem chks_get {lo n r : Nat} (h : chks lo n = true) (h1 : lo < r) (h2 : r ≤ lo + 2 * n) (he : lo % 2 = 0) (ho : r % 2 = 1) : chk r = true := by
  have := chks_at n h ((r - lo - 1) / 2) (by omega)
  rw [show lo + 2 * ((r - lo - 1) / 2) + 1 = r by omega] at this
  exact this
theorem chk_all {r : Nat} (h1 : 180 < r) (h2 : r ≤ 32768) (ho : r % 2 = 1) : chk r = true := by
  rcases Nat.lt_or_ge 190 r with h1 | h
  case inr => exact chks_get chks_180 (by omega) (by omega) (by omega) ho
  rcases Nat.lt_or_ge 196 r with h1 | h
  case inr => exact chks_get chks_190 (by omega) (by omega) (by omega) ho
  rcases Nat.lt_or_ge 210 r with h1 | h
  case inr => exact chks_get chks_196 (by omega) (by omega) (by omega) ho
  rcases Nat.lt_or_ge 226 r with h1 | h
  case inr => exact chks_get chks_210 (by omega) (by omega) (by omega) ho
  rcases Nat.lt_or_ge 238 r with h1 | h
  case inr => exact chks_get chks_226 (by omega) (by omega) (by omega) ho
  rcases Nat.lt_or_ge 256 r with h1 | h
  case inr => exact chks_get chks_238 (by omega) (by omega) (by omega) ho
  rcases Nat.lt_or_ge 276 r with h1 | h
  case inr => exact chks_get chks_256 (by omega) (by omega) (by omega) ho
  rcases Nat.lt_or_ge 306 r with h1 | h
  case inr => exact chks_get chks_276 (by omega) (by omega) (by omega) ho
  rcases Nat.lt_or_ge 330 r with h1 | h
  case inr => exact chks_get chks_306 (by omega) (by omega) (by omega) ho
  rcases Nat.lt_or_ge 366 r with h1 | h
  case inr => exact chks_get chks_330 (by omega) (by omega) (by omega) ho
  rcases Nat.lt_or_ge 418 r with h1 | h
  case inr => exact chks_get chks_366 (by omega) (by omega) (by omega) ho
  rcases Nat.lt_or_ge 478 r with h1 | h
  case inr => exact chks_get chks_418 (by omega) (by omega) (by omega) ho
  rcases Nat.lt_or_ge 576 r with h1 | h
  case inr => exact chks_get chks_478 (by omega) (by omega) (by omega) ho
  rcases Nat.lt_or_ge 708 r with h1 | h
  case inr => exact chks_get chks_576 (by omega) (by omega) (by omega) ho
  rcases Nat.lt_or_ge 936 r with h1 | h
  case inr => exact chks_get chks_708 (by omega) (by omega) (by omega) ho
  rcases Nat.lt_or_ge 1302 r with h1 | h
  case inr => exact chks_get chks_936 (by omega) (by omega) (by omega) ho
  rcases Nat.lt_or_ge 2088 r with h1 | h
  case inr => exact chks_get chks_1302 (by omega) (by omega) (by omega) ho
  rcases Nat.lt_or_ge 2888 r with h1 | h
  case inr => exact chks_get chks_2088 (by omega) (by omega) (by omega) ho
  rcases Nat.lt_or_ge 3688 r with h1 | h
  case inr => exact chks_get chks_2888 (by omega) (by omega) (by omega) ho
  rcases Nat.lt_or_ge 4488 r with h1 | h
  case inr => exact chks_get chks_3688 (by omega) (by omega) (by omega) ho
  rcases Nat.lt_or_ge 5288 r with h1 | h
  case inr => exact chks_get chks_4488 (by omega) (by omega) (by omega) ho
  rcases Nat.lt_or_ge 6088 r with h1 | h
  case inr => exact chks_get chks_5288 (by omega) (by omega) (by omega) ho
  rcases Nat.lt_or_ge 6888 r with h1 | h
  case inr => exact chks_get chks_6088 (by omega) (by omega) (by omega) ho
  rcases Nat.lt_or_ge 7688 r with h1 | h
  case inr => exact chks_get chks_6888 (by omega) (by omega) (by omega) ho
  rcases Nat.lt_or_ge 8488 r with h1 | h
  case inr => exact chks_get chks_7688 (by omega) (by omega) (by omega) ho
  rcases Nat.lt_or_ge 9288 r with h1 | h
  case inr => exact chks_get chks_8488 (by omega) (by omega) (by omega) ho
  rcases Nat.lt_or_ge 10088 r with h1 | h
  case inr => exact chks_get chks_9288 (by omega) (by omega) (by omega) ho
  rcases Nat.lt_or_ge 10888 r with h1 | h
  case inr => exact chks_get chks_10088 (by omega) (by omega) (by omega) ho
  rcases Nat.lt_or_ge 11688 r with h1 | h
  case inr => exact chks_get chks_10888 (by omega) (by omega) (by omega) ho
  rcases Nat.lt_or_ge 12488 r with h1 | h
  case inr => exact chks_get chks_11688 (by omega) (by omega) (by omega) ho
  rcases Nat.lt_or_ge 13288 r with h1 | h
  case inr => exact chks_get chks_12488 (by omega) (by omega) (by omega) ho
  rcases Nat.lt_or_ge 14088 r with h1 | h
  case inr => exact chks_get chks_13288 (by omega) (by omega) (by omega) ho
  rcases Nat.lt_or_ge 14888 r with h1 | h
  case inr => exact chks_get chks_14088 (by omega) (by omega) (by omega) ho
  rcases Nat.lt_or_ge 15688 r with h1 | h
  case inr => exact chks_get chks_14888 (by omega) (by omega) (by omega) ho
  rcases Nat.lt_or_ge 16488 r with h1 | h
  case inr => exact chks_get chks_15688 (by omega) (by omega) (by omega) ho
  rcases Nat.lt_or_ge 17288 r with h1 | h
  case inr => exact chks_get chks_16488 (by omega) (by omega) (by omega) ho
  rcases Nat.lt_or_ge 18088 r with h1 | h
  case inr => exact chks_get chks_17288 (by omega) (by omega) (by omega) ho
  rcases Nat.lt_or_ge 18888 r with h1 | h
  case inr => exact chks_get chks_18088 (by omega) (by omega) (by omega) ho
  rcases Nat.lt_or_ge 19688 r with h1 | h
  case inr => exact chks_get chks_18888 (by omega) (by omega) (by omega) ho
  rcases Nat.lt_or_ge 20488 r with h1 | h
  case inr => exact chks_get chks_19688 (by omega) (by omega) (by omega) ho
  rcases Nat.lt_or_ge 21288 r with h1 | h
  case inr => exact chks_get chks_20488 (by omega) (by omega) (by omega) ho
  rcases Nat.lt_or_ge 22088 r with h1 | h
  case inr => exact chks_get chks_21288 (by omega) (by omega) (by omega) ho
  rcases Nat.lt_or_ge 22888 r with h1 | h
  case inr => exact chks_get chks_22088 (by omega) (by omega) (by omega) ho
  rcases Nat.lt_or_ge 23688 r with h1 | h
  case inr => exact chks_get chks_22888 (by omega) (by omega) (by omega) ho
  rcases Nat.lt_or_ge 24488 r with h1 | h
  case inr => exact chks_get chks_23688 (by omega) (by omega) (by omega) ho
  rcases Nat.lt_or_ge 25288 r with h1 | h
  case inr => exact chks_get chks_24488 (by omega) (by omega) (by omega) ho
  rcases Nat.lt_or_ge 26088 r with h1 | h
  case inr => exact chks_get chks_25288 (by omega) (by omega) (by omega) ho
  rcases Nat.lt_or_ge 26888 r with h1 | h
  case inr => exact chks_get chks_26088 (by omega) (by omega) (by omega) ho
  rcases Nat.lt_or_ge 27688 r with h1 | h
  case inr => exact chks_get chks_26888 (by omega) (by omega) (by omega) ho
  rcases Nat.lt_or_ge 28488 r with h1 | h
  case inr => exact chks_get chks_27688 (by omega) (by omega) (by omega) ho
  rcases Nat.lt_or_ge 29288 r with h1 | h
  case inr => exact chks_get chks_28488 (by omega) (by omega) (by omega) ho
  rcases Nat.lt_or_ge 30088 r with h1 | h
  case inr => exact chks_get chks_29288 (by omega) (by omega) (by omega) ho
  rcases Nat.lt_or_ge 30888 r with h1 | h
  case inr => exact chks_get chks_30088 (by omega) (by omega) (by omega) ho
  rcases Nat.lt_or_ge 31688 r with h1 | h
  case inr => exact chks_get chks_30888 (by omega) (by omega) (by omega) ho
  rcases Nat.lt_or_ge 32488 r with h1 | h
  case inr => exact chks_get chks_31688 (by omega) (by omega) (by omega) ho
  exact chks_get chks_32488 (by omega) (by omega) (by omega) ho
def Q181 : List Nat := [11, 13, 17, 19, 23, 29, 31, 37, 41, 43, 47, 53, 59, 61, 67, 71, 73, 79, 83, 89, 97, 101, 103, 107, 109, 113, 127, 131, 137, 139, 149, 151, 157, 163, 167, 173, 179, 181]
theorem Q_sorted : Q181.Pairwise (· ≤ ·) := by decide +kernel
theorem Q_prime : ∀ q ∈ Q181, primeB q 20 = true := by decide +kernel
theorem Q_all : ∀ q, q < 182 → q < 2 ∨ q ∈ Q181 ∨ q ∈ [2, 3, 5, 7] ∨ ∃ d, d < q ∧ 1 < d ∧ q % d = 0 := by
  have h : ∀ q, q < 182 → q < 2 ∨ q ∈ Q181 ∨ q ∈ [2, 3, 5, 7] ∨ (2 < q ∧ q % 2 = 0) ∨ (3 < q ∧ q % 3 = 0) ∨ (5 < q ∧ q % 5 = 0) ∨ (7 < q ∧ q % 7 = 0) ∨ (11 < q ∧ q % 11 = 0) ∨ (13 < q ∧ q % 13 = 0) := by decide +kernel
  intro q hq
  rcases h q hq with h | h | h | h | h | h | h | h | h
  · exact .inl h
  · exact .inr (.inl h)
  · exact .inr (.inr (.inl h))
  all_goals exact .inr (.inr (.inr ⟨_, h.1, by omega, h.2⟩))
theorem Pass4.nd {n : Nat} (h : Pass4 n) {q : Nat} (hd : q ∣ n) (hq : q ∈ [2, 3, 5, 7]) : False := by
  have k : ∀ b, 2 ≤ b → Nat.Coprime n b → ¬ b ∣ n := fun b hb hc hd => by
    have : b ∣ Nat.gcd n b := Nat.dvd_gcd hd (Nat.dvd_refl b)
    rw [hc] at this
    have := Nat.le_of_dvd (by omega) this; omega
  simp only [List.mem_cons, List.not_mem_nil, or_false] at hq
  rcases hq with rfl | rfl | rfl | rfl
  · exact k 2 (by omega) h.c2 hd
  · exact k 3 (by omega) h.c3 hd
  · exact k 5 (by omega) h.c5 hd
  · exact k 7 (by omega) h.c7 hd
theorem Pass4.small {n : Nat} (h : Pass4 n) {q : Nat} (hq : PrimeN q) (hd : q ∣ n) (hs : q < 182) : q ∈ Q181 := by
  have h2 := hq.1
  rcases Q_all q hs with e | e | e | ⟨d, d1, d2, d3⟩
  · omega
  · exact e
  · exact (h.nd hd e).elim
  · rcases hq.2 d (Nat.dvd_of_mod_eq_zero d3) with e | e <;> omega
theorem pass4_prime {n : Nat} (h : Pass4 n) : PrimeN n := by
  refine Classical.byContradiction fun hn => ?_
  have hlo := h.lo
  have hhi := h.hi
  have hodd := h.odd
  have hs2 : ∀ r s, PrimeN r → n = r * s → 2 ≤ s := fun r s hr e => by
    rcases Nat.lt_or_ge s 2 with h1 | h1
    · exfalso
      have : s = 0 ∨ s = 1 := by omega
      rcases this with e1 | e1
      · subst e1; omega
      · subst e1; rw [Nat.mul_one] at e; exact hn (e ▸ hr)
    · exact h1
  by_cases hB : ∃ r, PrimeN r ∧ r ∣ n ∧ 181 < r ∧ r ≤ 32768
  · obtain ⟨r, hr, ⟨s, hrs⟩, h1, h2⟩ := hB
    have hro : r % 2 = 1 := by
      rcases Nat.mod_two_eq_zero_or_one r with e | e
      · have : n % 2 = 0 := by rw [hrs, Nat.mul_mod, e]; simp
        omega
      · exact e
    exact chk_no hr h1 (chk_all (by omega) h2 hro) (hs2 r s hr hrs) (hrs ▸ h)
  · have hcase : ∀ q, PrimeN q → q ∣ n → q ∈ Q181 ∨ 32768 < q := fun q hq hd => by
      rcases Nat.lt_or_ge q 182 with h1 | h1
      · exact .inl (h.small hq hd h1)
      · right
        rcases Nat.lt_or_ge 32768 q with h2 | h2
        · exact h2
        · exact absurd ⟨q, hq, hd, by omega, h2⟩ hB
    by_cases hA : ∃ r, PrimeN r ∧ r ∣ n ∧ 32768 < r
    · obtain ⟨r, hr, ⟨s, hrs⟩, h1⟩ := hA
      have hs := hs2 r s hr hrs
      have hsl : s < 32768 := by
        rcases Nat.lt_or_ge s 32768 with h2 | h2
        · exact h2
        · have := Nat.mul_le_mul (show 32769 ≤ r by omega) h2; omega
      have hA := dfsA
      rw [frc_eq] at hA
      have hc := dfs_at 5 1 Q181 hA (by omega) Q_sorted s hs (fun q hq hd => by
        rcases hcase q hq (hrs ▸ Nat.dvd_trans hd (Nat.dvd_mul_left s r)) with e | e
        · exact e
        · have := Nat.le_of_dvd (by omega) hd; omega) (by omega)
      rw [Nat.one_mul] at hc
      exact chkA_no hr (by omega) hs (by omega) hc (hrs ▸ h)
    · rcases allS_Q.at Q_sorted n (by omega) (fun q hq hd => by
        rcases hcase q hq hd with e | e
        · exact e
        · exact absurd ⟨q, hq, hd, e⟩ hA) (by omega) with h1 | h1
      · exact hn (primeB_sound (Q_prime n h1))
      · exact tstQ_no h h1
theorem validI_sound {n : Nat} (h : validI (n : Int) = true) : PrimeN n := by
  rcases valid_pass h with e | e | e | e | h
  · subst e; exact prime_2
  · subst e; exact prime_3
  · subst e; exact prime_5
  · subst e; exact prime_7
  · exact pass4_prime h
end Go.Proofs.YtkjpnhhkebbmdaaDoor
namespace Go.Proofs.YtkjpnhhkebbmdaaDoor
open Go.RowKit

theorem valid_eq (p : Int) : validI p = primeV p := by
  by_cases h : p ≤ 1073741824 ∧ PrimeN p.toNat
  · obtain ⟨h1, h2⟩ := h
    have h3 := h2.1
    obtain ⟨p, rfl⟩ := Int.eq_ofNat_of_zero_le (show 0 ≤ p by omega)
    rw [Int.toNat_natCast] at h2
    rw [validI_prime h2 (by omega)]; exact primeV_true (by omega) h2
  · rw [← primeV_false h]
    by_cases h2 : p < 2
    · exact (validI_small h2).symm
    · by_cases h3 : 1073741824 < p
      · exact (validI_big h3).symm
      · obtain ⟨p, rfl⟩ := Int.eq_ofNat_of_zero_le (show 0 ≤ p by omega)
        rw [Int.toNat_natCast] at h
        cases hv : validI (p : Int) with
        | false => rfl
        | true => exact absurd ⟨by omega, validI_sound hv⟩ h
theorem prime_eq (p : Int) : primeV p = validI p := (valid_eq p).symm
end Go.Proofs.YtkjpnhhkebbmdaaDoor
namespace Go.Proofs.YtkjpnhhkebbmdaaDoor
open Go.RowKit

theorem dlL_len {p n h : Int} {sec ran : List Int} : (dlL p n h sec ran).length ≤ 16 := by
  unfold dlL
  by_cases e : dlE p n h sec ran = 0
  · rw [if_pos e, deal_len]
    have hpl : plB p n h = true := by
      rcases hp : plB p n h with _ | _
      · rw [dlE_pl hp] at e; cases e
      · rfl
    obtain ⟨b1, b2, b3, b4, b5⟩ : PlanP p n h := of_decide_eq_true hpl
    omega
  · rw [if_neg e]; exact Nat.zero_le _
theorem dlL_short {p n h : Int} {sec ran : List Int} (hl : sec.length ≤ 1048576) : Short (shL (dlL p n h sec ran)) := by
  refine short_shL fun k hk => ?_
  by_cases e : dlE p n h sec ran = 0
  · have hd : dlL p n h sec ran = dealN p.toNat n.toNat h.toNat (sec.map Int.toNat) (ran.map Int.toNat) := by unfold dlL; rw [if_pos e]
    rw [hd] at hk ⊢
    rw [deal_len] at hk
    rw [show dealN p.toNat n.toNat h.toNat (sec.map Int.toNat) (ran.map Int.toNat) = dealtT p.toNat h.toNat (sec.map Int.toNat) (ran.map Int.toNat) (n.toNat - 1) (sec.map Int.toNat).length from rfl, (dealtT_at hk).2]
    simpa using hl
  · rw [dlL_no e] at hk; exact absurd hk (by simp)

/-- A list of numbers, as a slice. -/
structure LI where
  ad : Option Addr
  cp : Nat
  ls : List Int
def LI.val (x : LI) : Value := .slice x.ad x.ls.length x.cp
/-- Block g holds slices of lists of numbers. -/
structure LsAt (P : Nat → Prop) (w : World) (g : Nat) (X : List LI) : Prop where
  blk : w.heap[g]? = some (.cells (X.map LI.val).toArray 22 (0, 0))
  ints : ∀ x ∈ X, IntsP P w x.ad x.cp x.ls ∧ x.ls.length ≤ 1048576
theorem LsAt.lt {P : Nat → Prop} {w : World} {g : Nat} {X : List LI} (H : LsAt P w g X) : g < w.heap.size := blk_lt H.blk
theorem LsAt.keep {P : Nat → Prop} {w w' : World} {g : Nat} {X : List LI} (H : LsAt P w g X) (hk : Kept P w w') (hg : w'.heap[g]? = w.heap[g]?) : LsAt P w' g X :=
  ⟨hg.trans H.blk, fun x hx => ⟨(H.ints x hx).1.keep hk, (H.ints x hx).2⟩⟩
theorem LsAt.below {P : Nat → Prop} {w w' : World} {g : Nat} {X : List LI} (H : LsAt P w g X) (hb : Below w.heap.size w w') : LsAt P w' g X := H.keep (Kept.below hb) (hb.block g H.lt)
theorem LsAt.at_ {P : Nat → Prop} {w : World} {g : Nat} {X : List LI} (H : LsAt P w g X) (i : Nat) (hi : i < X.length) :
    ∃ A c L, w.cell? ⟨g, i, none⟩ = some (.slice A L.length c) ∧ IntsP P w A c L ∧ L.length ≤ 1048576 := by
  refine ⟨X[i].ad, X[i].cp, X[i].ls, ?_, H.ints _ (List.getElem_mem hi)⟩
  rw [cell_of_row w g i _ _ (0, 0) H.blk]
  simp [hi, LI.val]
/-- Block g holds three plans. -/
def Plan3 (w : World) (g : Nat) (a b c d e f x y z : Int) : Prop := w.heap[g]? = some (.cells #[.int .i64 a, .int .i64 b, .int .i64 c, .int .i64 d, .int .i64 e, .int .i64 f, .int .i64 x, .int .i64 y, .int .i64 z] 24 (0, 0))
theorem Plan3.at_ {w : World} {g : Nat} {a b c d e f x y z : Int} (H : Plan3 w g a b c d e f x y z) (i : Nat) (hi : i < 3) :
    ∃ P N Q : Int, w.cell? ⟨g, i * 3, none⟩ = some (.int .i64 P) ∧ w.cell? ⟨g, i * 3 + 1, none⟩ = some (.int .i64 N) ∧ w.cell? ⟨g, i * 3 + 2, none⟩ = some (.int .i64 Q) := by
  have h : ∀ j, w.cell? ⟨g, j, none⟩ = (#[.int .i64 a, .int .i64 b, .int .i64 c, .int .i64 d, .int .i64 e, .int .i64 f, .int .i64 x, .int .i64 y, .int .i64 z] : Array Value)[j]? := fun j => cell_of_row w g j _ _ (0, 0) H
  obtain rfl | rfl | rfl : i = 0 ∨ i = 1 ∨ i = 2 := by omega
  · exact ⟨a, b, c, h 0, h 1, h 2⟩
  · exact ⟨d, e, f, h 3, h 4, h 5⟩
  · exact ⟨x, y, z, h 6, h 7, h 8⟩
/-- What stands while plans are tried. -/
structure DSt (w0 w : World) (D : Nat) (R : List Int) (px p n q pl : Nat) (a b c d e f x y z : Int) (A1 : Option Addr) (c1 : Nat) (L1 : List Int) (A2 : Option Addr) (c2 : Nat) (L2 : List Int) (GA : Option Addr) (gc : Nat) (G : List Nat) : Prop where
  env : Env w0 w D R
  pp : PlanCell w px p n q
  p3 : Plan3 w pl a b c d e f x y z
  s1 : IntsP (· ≠ D) w A1 c1 L1
  s2 : IntsP (· ≠ D) w A2 c2 L2
  gd : IntsP (· ≠ D) w GA gc (ofN G)
  ne : px ≠ D
  nl : pl ≠ D
section
variable {w0 w w' : World} {D : Nat} {R R' : List Int} {px p n q pl : Nat} {a b c d e f x y z : Int} {A1 : Option Addr} {c1 : Nat} {L1 : List Int} {A2 : Option Addr} {c2 : Nat} {L2 : List Int} {GA : Option Addr} {gc : Nat} {G : List Nat}
theorem DSt.below (H : DSt w0 w D R px p n q pl a b c d e f x y z A1 c1 L1 A2 c2 L2 GA gc G) (hb : Below w.heap.size w w') : DSt w0 w' D R px p n q pl a b c d e f x y z A1 c1 L1 A2 c2 L2 GA gc G :=
  ⟨H.env.mv hb, H.pp.below hb, (hb.block _ (blk_lt H.p3)).trans H.p3, H.s1.keep (Kept.below hb), H.s2.keep (Kept.below hb), H.gd.keep (Kept.below hb), H.ne, H.nl⟩
theorem DSt.mv (H : DSt w0 w D R px p n q pl a b c d e f x y z A1 c1 L1 A2 c2 L2 GA gc G) (hd : DiceAt w' D R') (hg : w.grownBy w' (some D)) : DSt w0 w' D R' px p n q pl a b c d e f x y z A1 c1 L1 A2 c2 L2 GA gc G :=
  ⟨H.env.next hd hg, H.pp.mv hg H.ne, (hg.block _ (blk_lt H.p3) (fun e => H.nl (Option.some.inj e))).trans H.p3, H.s1.keep (Kept.mv hg), H.s2.keep (Kept.mv hg), H.gd.keep (Kept.mv hg), H.ne, H.nl⟩
end
theorem LsAt.mv {w w' : World} {D g : Nat} {X : List LI} (H : LsAt (· ≠ D) w g X) (hg : w.grownBy w' (some D)) (hne : g ≠ D) : LsAt (· ≠ D) w' g X := H.keep (Kept.mv hg) (hg.block g H.lt (fun e => hne (Option.some.inj e)))
theorem LsAt.two {P : Nat → Prop} {w : World} {g c1 c2 : Nat} {A1 A2 : Option Addr} {L1 L2 : List Int} (hg : w.heap[g]? = some (.cells #[.slice A1 L1.length c1, .slice A2 L2.length c2] 22 (0, 0))) (h1 : IntsP P w A1 c1 L1) (h2 : IntsP P w A2 c2 L2) (hl1 : L1.length ≤ 1048576) (hl2 : L2.length ≤ 1048576) :
    LsAt P w g [⟨A1, c1, L1⟩, ⟨A2, c2, L2⟩] :=
  ⟨hg, fun x hx => by simp at hx; rcases hx with rfl | rfl; exact ⟨h1, hl1⟩; exact ⟨h2, hl2⟩⟩
theorem LsAt.three {P : Nat → Prop} {w : World} {g c1 c2 : Nat} {A1 A2 : Option Addr} {L1 L2 : List Int} (hg : w.heap[g]? = some (.cells #[.slice A1 L1.length c1, .slice A2 L2.length c2, .slice none 0 0] 22 (0, 0))) (h1 : IntsP P w A1 c1 L1) (h2 : IntsP P w A2 c2 L2) (hl1 : L1.length ≤ 1048576) (hl2 : L2.length ≤ 1048576) :
    LsAt P w g [⟨A1, c1, L1⟩, ⟨A2, c2, L2⟩, ⟨none, 0, []⟩] :=
  ⟨hg, fun x hx => by simp at hx; rcases hx with rfl | rfl | rfl; exact ⟨h1, hl1⟩; exact ⟨h2, hl2⟩; exact ⟨IntsP.nil _ _, by simp⟩⟩
theorem elems_new2 {D n p : Nat} {w w' : World} {e : Ending} (h : ElemsP D n p w e w') :
    ∃ A c L R', e = .returned (.slice A L.length c) ∧ L.length = n ∧ (∀ x ∈ L, x < p) ∧ SlOK A c L ∧ IntsP (fun b => w.heap.size ≤ b) w' A c (ofN L) ∧ DiceAt w' D R' ∧ w.grownBy w' (some D) := by
  obtain ⟨v, L, R', rfl, hL, hp, hown, hd, hg⟩ := h
  obtain ⟨A, c, rfl, h1, h2, h3⟩ := own_sl hown rfl
  exact ⟨A, c, L, R', rfl, hL, hp, h2, ⟨h1.ints, by rw [len_ofN]; exact h2.iok, fun b off e => .inr (h3 b off e).1⟩, hd, hg⟩
end Go.Proofs.YtkjpnhhkebbmdaaDoor
namespace Go.Proofs.YtkjpnhhkebbmdaaDoor
open Go.RowKit

attribute [local go_sem high] sliced_low
set_option maxRecDepth 100000 in
set_option maxHeartbeats 8000000 in
theorem shareDeals_walk (A0 : Option Addr) (L0 : List Int) (c0 : Nat) (pr nr hr : Int) (A1 : Option Addr) (L1 : List Int) (c1 : Nat) (A2 : Option Addr) (L2 : List Int) (c2 : Nat) (w : World) (hB : Bases w) (hl0 : L0.length ≤ maxLen) (hI0 : IntsAt w A0 L0) (_ : ∀ n ∈ L0, -9223372036854775808 ≤ n ∧ n ≤ 9223372036854775807)
    (_ : -9223372036854775808 ≤ pr ∧ pr ≤ 9223372036854775807) (_ : -9223372036854775808 ≤ nr ∧ nr ≤ 9223372036854775807) (_ : -9223372036854775808 ≤ hr ∧ hr ≤ 9223372036854775807)
    (hok1 : IOK A1 c1 L1.length) (hI1 : IntsAt w A1 L1) (_ : ∀ n ∈ L1, -9223372036854775808 ≤ n ∧ n ≤ 9223372036854775807) (hok2 : IOK A2 c2 L2.length) (hI2 : IntsAt w A2 L2) (_ : ∀ n ∈ L2, -9223372036854775808 ≤ n ∧ n ≤ 9223372036854775807) :
    Calls Tryd.prog 3 #[.slice A0 L0.length c0, planV pr nr hr, .slice A1 L1.length c1, .slice A2 L2.length c2] w (RetB (.bool true) w) := by
  have HB := Lib.hid hB
  clear hB
  by_cases hlight : ((L0.length : Int) ≤ 500 ∧ (L1.length : Int) ≤ 20) ∧ (L2.length : Int) ≤ 60
  · obtain ⟨⟨hl, hl1⟩, hl2⟩ := hlight
    have hL := light_any A0 L0.length c0 (w.alloc (.cells #[.int .i64 pr, .int .i64 nr, .int .i64 hr] 24))
    rw [decide_eq_true hl] at hL
    have HLt := Lib.hid hL
    have d1 : decide (20 < (L1.length : Int)) = false := decide_eq_false (by omega)
    have d2 : decide (60 < (L2.length : Int)) = false := decide_eq_false (by omega)
    have HI1 := Lib.hid hI1
    have HI2 := Lib.hid hI2
    have HO1 := Lib.hid hok1
    have HO2 := Lib.hid hok2
    clear hL hl hI1 hI2 hok1 hok2
    go_enter Tryd.func3, Tryd.ntmps3
    go_wp2_with fail
    refine ret_pure HLt.out ?_
    clear HLt
    go_wp2_with fail
    refine (roll_any A0 L0 c0 _ hl0 (hI0.below (below_alloc _ _))).mono ?_
    rintro e w1 ⟨D, rfl, hDs, hD, hb1⟩
    have hDw : w.heap.size < D := by simp at hDs; omega
    have hE1 : Env w w1 D L0 := ⟨hD, Nat.le_of_lt hDw, below_trans (below_alloc _ _) hb1⟩
    have HPR := Lib.hid ((PlanCell.new (w := w) pr nr hr rfl).below hb1)
    have HS1 : Hid (IntsP (· ≠ D) w1 A1 c1 L1) := Lib.hid ⟨HI1.out.below hE1.below, HO1.out, fun b off e => by
      rcases Nat.eq_zero_or_pos L1.length with h0 | h0
      · exact .inl h0
      · obtain ⟨b2, off2, e2, hlt2, -⟩ := HI1.out 0 h0
        rw [e2] at e; injection e with e; injection e with e; exact .inr (by omega)⟩
    have HS2 : Hid (IntsP (· ≠ D) w1 A2 c2 L2) := Lib.hid ⟨HI2.out.below hE1.below, HO2.out, fun b off e => by
      rcases Nat.eq_zero_or_pos L2.length with h0 | h0
      · exact .inl h0
      · obtain ⟨b2, off2, e2, hlt2, -⟩ := HI2.out 0 h0
        rw [e2] at e; injection e with e; injection e with e; exact .inr (by omega)⟩
    clear hI0 hD hb1 HI1 HI2 HO1 HO2 hDs
    go_wp2_with fail
    refine (anyPlan_any D L0 _ hE1.dice).mono ?_
    rintro e w2 ⟨pa, na, ha, R2, rfl, hAB, hD2, hg2⟩
    have hE2 := hE1.next hD2 hg2
    replace HPR := Lib.hid (HPR.out.mv hg2 (Nat.ne_of_lt hDw))
    replace HS1 := Lib.hid (HS1.out.keep (Kept.mv hg2))
    replace HS2 := Lib.hid (HS2.out.keep (Kept.mv hg2))
    clear hD2 hg2 hE1 hAB
    go_wp2_with fail
    refine gen_calls fun w3 hw3 => ?_
    have hb3 : Below w2.heap.size w2 w3 := by rw [hw3]; exact below_alloc _ _
    have hE3 := hE2.mv hb3
    have HPA : Hid (PlanCell w3 w2.heap.size pa na ha) := Lib.hid (by rw [hw3]; exact PlanCell.new _ _ _ rfl)
    replace HPR := Lib.hid (HPR.out.below hb3)
    replace HS1 := Lib.hid (HS1.out.keep (Kept.below hb3))
    replace HS2 := Lib.hid (HS2.out.keep (Kept.below hb3))
    have hxa : w2.heap.size ≠ D := by have := hE2.lt; omega
    clear hb3 hw3 hE2
    generalize w2.heap.size = xa at *
    refine (prime_any D R2 _ hE3.dice).mono ?_
    rintro e w4 ⟨p, rfl, hpp, hp5, -, hD4, hg4⟩
    have hE4 := hE3.next hD4 hg4
    have h2 := hpp.1
    have h1 : 1 ≤ p := by omega
    have hp2 : p ≤ 2147483648 := by omega
    have HPP := Lib.hid hpp
    replace HPA := Lib.hid (HPA.out.mv hg4 hxa)
    replace HPR := Lib.hid (HPR.out.mv hg4 (Nat.ne_of_lt hDw))
    replace HS1 := Lib.hid (HS1.out.keep (Kept.mv hg4))
    replace HS2 := Lib.hid (HS2.out.keep (Kept.mv hg4))
    clear hD4 hg4 hE3 hpp
    go_wp2_with fail
    refine (plan_any D _ p _ hE4.dice h2 hp2).mono ?_
    rintro e w5 ⟨n, q, R5, rfl, ⟨hn1, hnq, hq7, hqp⟩, hD5, hg5⟩
    have hE5 := hE4.next hD5 hg5
    have HPN := Lib.hid (PlanN.mk' HPP.out (by omega) hn1 hnq hq7 hqp)
    replace HPA := Lib.hid (HPA.out.mv hg5 hxa)
    replace HPR := Lib.hid (HPR.out.mv hg5 (Nat.ne_of_lt hDw))
    replace HS1 := Lib.hid (HS1.out.keep (Kept.mv hg5))
    replace HS2 := Lib.hid (HS2.out.keep (Kept.mv hg5))
    clear hD5 hg5 hE4 HPP
    go_wp2_with fail
    refine gen_world fun w6 hw6 => ?_
    have hb6 : Below w5.heap.size w5 w6 := by rw [hw6]; exact below_alloc _ _
    have hE6 := hE5.mv hb6
    have HP : Hid (PlanCell w6 w5.heap.size p n q) := Lib.hid (by rw [hw6]; exact PlanCell.new _ _ _ rfl)
    replace HPA := Lib.hid (HPA.out.below hb6)
    replace HPR := Lib.hid (HPR.out.below hb6)
    replace HS1 := Lib.hid (HS1.out.keep (Kept.below hb6))
    replace HS2 := Lib.hid (HS2.out.keep (Kept.below hb6))
    have hxD : w5.heap.size ≠ D := by have := hE5.lt; omega
    clear hb6 hw6 hE5
    generalize w5.heap.size = px at *
    have p0 := HP.out.c0
    have p1 := HP.out.c1
    have p2 := HP.out.c2
    go_region_held3 (fun w' => w'.cell? ⟨px, 0, none⟩ = some (.int .i64 (p : Int)) ∧ w'.cell? ⟨px, 1, none⟩ = some (.int .i64 (n : Int)) ∧ w'.cell? ⟨px, 2, none⟩ = some (.int .i64 (q : Int))) (first | go_keep)
      (first
        | (go_at_call 17; refine (next_nat D _ 5 _ (by exact hE6.dice) (by omega) (by omega)).mono ?_; rintro e w7 ⟨m, rfl, hm, hD7, hg7⟩; have hg7' : w6.grownBy w7 (some D) := (grown_undrew hg7); have hE7 := hE6.next hD7 hg7'; replace HP := Lib.hid (HP.out.mv hg7' hxD); replace p0 := HP.out.c0; replace p1 := HP.out.c1; replace p2 := HP.out.c2; replace HPA := Lib.hid (HPA.out.mv hg7' hxa); replace HPR := Lib.hid (HPR.out.mv hg7' (Nat.ne_of_lt hDw)); replace HS1 := Lib.hid (HS1.out.keep (Kept.mv hg7')); replace HS2 := Lib.hid (HS2.out.keep (Kept.mv hg7')))
        | (go_at_call 16; refine (elements_any D _ p m _ hE7.dice h1 hp2 (by omega)).mono ?_; intro e w8 he; obtain ⟨GA, gc, G, R8, rfl, hgl, hgp, hgk, hgi, hD8, hg8⟩ := elems_new2 he; subst hgl; have hE8 := hE7.next hD8 hg8; replace HP := Lib.hid (HP.out.mv hg8 hxD); replace p0 := HP.out.c0; replace p1 := HP.out.c1; replace p2 := HP.out.c2; replace HPA := Lib.hid (HPA.out.mv hg8 hxa); replace HPR := Lib.hid (HPR.out.mv hg8 (Nat.ne_of_lt hDw)); replace HS1 := Lib.hid (HS1.out.keep (Kept.mv hg8)); replace HS2 := Lib.hid (HS2.out.keep (Kept.mv hg8))))
    have HGI : Hid (IntsP (· ≠ D) w8 GA gc (ofN G)) := Lib.hid (hgi.mono (fun b _ hb => by have := hE7.lt; omega))
    have hgm : G.length ≤ 4 := by omega
    have a0 := HPA.out.c0
    have a1 := HPA.out.c1
    have a2 := HPA.out.c2
    have r0 := HPR.out.c0
    have r1 := HPR.out.c1
    have r2 := HPR.out.c2
    clear he hgi hgp hgk hD8 hg8 hD7 hg7 hg7' hE7 hE6 hm
    go_wp2_with fail
    refine gen_world fun w9 hw9 => ?_
    have hb9 : Below w8.heap.size w8 w9 := by rw [hw9]; exact below_alloc _ _
    have hlD : w8.heap.size ≠ D := by have := hE8.lt; omega
    have HST : Hid (DSt w w9 D R8 px p n q w8.heap.size pa na ha pr nr hr p n q A1 c1 L1 A2 c2 L2 GA gc G) := Lib.hid
      ⟨hE8.mv hb9, HP.out.below hb9, by rw [hw9]; exact heap_alloc_new _ _, HS1.out.keep (Kept.below hb9), HS2.out.keep (Kept.below hb9), HGI.out.keep (Kept.below hb9), hxD, hlD⟩
    clear hw9 hb9 hE8 HP HPA HPR HS1 HS2 HGI p0 p1 p2 a0 a1 a2 r0 r1 r2
    generalize w8.heap.size = pl at *
    obtain ⟨rl, hrl⟩ : ∃ rl, rl = G.length * (n - 1) := ⟨_, rfl⟩
    have hrl2 : rl ≤ 24 := by rw [hrl]; have := Nat.mul_le_mul hgm (show n - 1 ≤ 6 by omega); omega
    have HR1 := Lib.hid (fun (W : World) => random_nat p n q G.length rl W hrl hn1 (by omega) (by omega))
    have HR2 := Lib.hid (fun (W : World) => refRandom_nat p n q G.length rl W hrl hn1 (by omega) (by omega))
    have hrlI : (G.length : Int) * ((n : Int) - 1) = (rl : Int) := by rw [hrl, show ((n : Int) - 1) = ((n - 1 : Nat) : Int) by omega]; push_cast; rfl
    have HRI := Lib.hid hrlI
    clear hrl hrlI
    go_loopw [56] (fun i wr => ∃ (k : Nat) (R : List Int), k ≤ 3 ∧ i = .int .i64 k ∧ DSt w wr D R px p n q pl pa na ha pr nr hr p n q A1 c1 L1 A2 c2 L2 GA gc G) (fun i _ => 3 - (intOf i).toNat)
    case atStart => exact ⟨0, _, Nat.zero_le _, rfl, HST.out⟩
    case round =>
      clear HST
      obtain ⟨k, R, hk, rfl, hSt⟩ := hrel
      have HST := Lib.hid hSt
      clear hSt
      by_cases hkl : k < 3
      · obtain ⟨P, N, Q, x0, x1, x2⟩ := HST.out.p3.at_ k hkl
        have i1 : (0 : Int) ≤ (k : Int) := by omega
        have i2 : (k : Int) < 3 := by omega
        go_wp2_with fail
        refine gen_world fun wa hwa => ?_
        have hba : Below wr.heap.size wr wa := by rw [hwa]; exact below_alloc _ _
        have HPC : Hid (PlanCell wa wr.heap.size P N Q) := Lib.hid (by rw [hwa]; exact PlanCell.new _ _ _ rfl)
        have hqD : wr.heap.size ≠ D := by have := HST.out.env.lt; omega
        replace HST := Lib.hid (HST.out.below hba)
        clear hwa hba x0 x1 x2
        generalize wr.heap.size = qx at *
        obtain ⟨bv, hbv⟩ : ∃ bv, bv = plB P N Q := ⟨_, rfl⟩
        have HV1 := Lib.hid (fun (W : World) (hB : Bases W) => show Calls Tryd.prog 18 #[planV P N Q] W (RetB (.bool bv) W) from by rw [hbv]; exact valid_plan P N Q W hB)
        have HV2 := Lib.hid (fun (W : World) => show Calls Tryd.prog 19 #[planV P N Q] W (RetB (.bool bv) W) from by rw [hbv]; exact refValid_plan P N Q W (prime_eq P))
        have y0 := HPC.out.c0
        have y1 := HPC.out.c1
        have y2 := HPC.out.c2
        clear hbv
        go_region_held3 (fun w' => w'.cell? ⟨qx, 0, none⟩ = some (.int .i64 P) ∧ w'.cell? ⟨qx, 1, none⟩ = some (.int .i64 N) ∧ w'.cell? ⟨qx, 2, none⟩ = some (.int .i64 Q)) (first | go_keep)
          (first
            | (go_at_call 18; refine ret_below (HV1.out _ (by first | exact HST.out.env.bases HB.out | exact (HST.out.below (below_drewT _)).env.bases HB.out)) ?_; intro wv hb; (first | replace HST := Lib.hid (HST.out.below hb) | replace HST := Lib.hid (HST.out.below (below_undrew1 hb))); (first | replace HPC := Lib.hid (HPC.out.below hb) | replace HPC := Lib.hid (HPC.out.below (below_undrew1 hb))); replace y0 := HPC.out.c0; replace y1 := HPC.out.c1; replace y2 := HPC.out.c2)
            | (go_at_call 19; refine ret_below (HV2.out _) ?_; intro wv2 hb2; (first | replace HST := Lib.hid (HST.out.below hb2) | replace HST := Lib.hid (HST.out.below (below_undrew1 hb2))); (first | replace HPC := Lib.hid (HPC.out.below hb2) | replace HPC := Lib.hid (HPC.out.below (below_undrew1 hb2))); replace y0 := HPC.out.c0; replace y1 := HPC.out.c1; replace y2 := HPC.out.c2))
        have hBB : (bv != bv) = false := by simp
        clear HV1 HV2 y0 y1 y2
        (first | clear hb | skip)
        (first | clear hb2 | skip)
        go_wp2_with fail
        obtain ⟨wz, hwz⟩ : ∃ wz : World, wz = wv2 := ⟨_, rfl⟩
        rw [← hwz] at HST HPC ⊢
        clear hwz
        refine gen_world fun wb hwb => ?_
        have hbb : Below wz.heap.size wz wb := by rw [hwb]; exact below_alloc _ _
        have hsD : wz.heap.size ≠ D := by have := HST.out.env.lt; omega
        have HLS : Hid (LsAt (· ≠ D) wb wz.heap.size [⟨A1, c1, L1⟩, ⟨GA, gc, ofN G⟩]) := Lib.hid (LsAt.two (by rw [hwb, len_ofN]; exact heap_alloc_new _ _) (HST.out.s1.keep (Kept.below hbb)) (HST.out.gd.keep (Kept.below hbb)) (by omega) (by rw [len_ofN]; omega))
        replace HST := Lib.hid (HST.out.below hbb)
        replace HPC := Lib.hid (HPC.out.below hbb)
        clear hwb hbb
        generalize wz.heap.size = sl at *
        go_loopw [69] (fun i wr => ∃ (k2 : Nat) (R : List Int), k2 ≤ 2 ∧ i = .int .i64 k2 ∧ DSt w wr D R px p n q pl pa na ha pr nr hr p n q A1 c1 L1 A2 c2 L2 GA gc G ∧ PlanCell wr qx P N Q ∧ LsAt (· ≠ D) wr sl [⟨A1, c1, L1⟩, ⟨GA, gc, ofN G⟩]) (fun i _ => 2 - (intOf i).toNat)
        case atStart => exact ⟨0, _, Nat.zero_le _, rfl, HST.out, HPC.out, HLS.out⟩
        case round =>
          clear HST HPC HLS
          obtain ⟨k2, R2, hk2, rfl, hSt, hPC, hLS⟩ := hrel
          have HST := Lib.hid hSt
          have HPC := Lib.hid hPC
          have HLS := Lib.hid hLS
          clear hSt hPC hLS
          by_cases hk2l : k2 < 2
          · obtain ⟨SA, sc, S, y0, hSI, hSl⟩ := HLS.out.at_ k2 hk2l
            have HSI := Lib.hid hSI
            have j1 : (0 : Int) ≤ (k2 : Int) := by omega
            have j2 : (k2 : Int) < 2 := by omega
            have p0 := HST.out.pp.c0
            have p1 := HST.out.pp.c1
            have p2 := HST.out.pp.c2
            have hnm : IntKind.i64.wrap ((n : Int) - 1) = (n : Int) - 1 := IntWalk.i64_in _ (by omega)
            have hml : IntKind.i64.wrap ((G.length : Int) * ((n : Int) - 1)) = (rl : Int) := by rw [HRI.out]; exact IntWalk.i64_in _ (by omega)
            have m1 : (1 : Int) ≤ (p : Int) := by omega
            have m2 : (rl : Int) ≤ 60 := by omega
            have m3 : (0 : Int) ≤ (rl : Int) := by omega
            clear hSI
            go_wp2_with fail
            all_goals
              refine Calls.mono (P := Tryd.prog) (by first | exact elements_at D _ p rl _ wr rfl HST.out.env.dice h1 hp2 (by omega) | exact elements_at D _ p 0 _ wr rfl HST.out.env.dice h1 hp2 (by omega) | exact elements_at D _ p 60 _ wr rfl HST.out.env.dice h1 hp2 (by omega)) ?_
              intro e wc he
              obtain ⟨RA, rc, ra, R3, rfl, hrnl, hrp, hRk, hRI, hDc, hgc⟩ := elems_new2 he
              have HRI2 : Hid (IntsP (· ≠ D) wc RA rc (ofN ra)) := Lib.hid (hRI.mono (fun b _ hb => by have := HST.out.env.lt; omega))
              have hra : ra.length ≤ 60 := by omega
              replace HSI := Lib.hid (HSI.out.keep (Kept.mv hgc))
              have hqD2 := hqD
              replace HPC := Lib.hid (HPC.out.mv hgc hqD)
              replace HLS := Lib.hid (HLS.out.mv hgc hsD)
              replace HST := Lib.hid (HST.out.mv hDc hgc)
              clear he hrnl hrp hRk hRI hDc hgc p0 p1 p2 y0
              go_wp2_with fail
              refine gen_world fun wd hwd => ?_
              have hbd : Below wc.heap.size wc wd := by rw [hwd]; exact below_alloc _ _
              have HL3 : Hid (LsAt (· ≠ D) wd wc.heap.size [⟨A2, c2, L2⟩, ⟨RA, rc, ofN ra⟩, ⟨none, 0, []⟩]) := Lib.hid (LsAt.three (by rw [hwd, len_ofN]; exact heap_alloc_new _ _) (HST.out.s2.keep (Kept.below hbd)) (HRI2.out.keep (Kept.below hbd)) (by omega) (by rw [len_ofN]; omega))
              replace HST := Lib.hid (HST.out.below hbd)
              replace HPC := Lib.hid (HPC.out.below hbd)
              replace HLS := Lib.hid (HLS.out.below hbd)
              replace HSI := Lib.hid (HSI.out.keep (Kept.below hbd))
              clear hwd hbd HRI2
              generalize wc.heap.size = rb at *
              go_loopw [89] (fun i wr => ∃ (k3 : Nat), k3 ≤ 3 ∧ i = .int .i64 k3 ∧ Below wd.heap.size wd wr) (fun i _ => 3 - (intOf i).toNat)
              case atStart => exact ⟨0, Nat.zero_le _, rfl, Below.refl _ _⟩
              case round =>
                obtain ⟨k3, hk3, rfl, hbr⟩ := hrel
                have HSTr := Lib.hid (HST.out.below hbr)
                have HPCr := Lib.hid (HPC.out.below hbr)
                have HLSr := Lib.hid (HLS.out.below hbr)
                have HSIr := Lib.hid (HSI.out.keep (Kept.below hbr))
                by_cases hk3l : k3 < 3
                · obtain ⟨B, cb, T, z0, hTI, hTl⟩ := (HL3.out.below hbr).at_ k3 hk3l
                  have l1 : (0 : Int) ≤ (k3 : Int) := by omega
                  have l2 : (k3 : Int) < 3 := by omega
                  have HTI := Lib.hid hTI
                  have x0 := HPCr.out.c0
                  have x1 := HPCr.out.c1
                  have x2 := HPCr.out.c2
                  have HD1 := Lib.hid (fun (W : World) (hb : Below wr.heap.size wr W) => dealS_any P N Q SA B sc cb S T W (prime_eq P) ((HSTr.out.below hb).env.bases HB.out) (HSIr.out.keep (Kept.below hb)).ints (HTI.out.keep (Kept.below hb)).ints HTI.out.ok hSl hTl)
                  have HD2 := Lib.hid (fun (W : World) (hb : Below wr.heap.size wr W) => refDealS_any P N Q SA B sc cb S T W (prime_eq P) (HSIr.out.keep (Kept.below hb)).ints (HTI.out.keep (Kept.below hb)).ints hSl hTl HTI.out.ok)
                  have HSH := Lib.hid (show Short (shL (dlL P N Q S T)) from dlL_short hSl)
                  have HSL := Lib.hid (show (shL (dlL P N Q S T)).length ≤ 16 from by rw [shL_len]; exact dlL_len)
                  generalize shL (dlL P N Q S T) = DL at *
                  generalize dlE P N Q S T = er at *
                  clear hTI
                  go_wp2_with fail
                  refine (HD1.out _ (Below.refl _ _)).mono ?_
                  rintro e we ⟨E1, ce1, rfl, hE1, hbe⟩
                  have HE1 := Lib.hid hE1
                  replace x0 := (HPCr.out.below hbe).c0
                  replace x1 := (HPCr.out.below hbe).c1
                  replace x2 := (HPCr.out.below hbe).c2
                  clear hE1 z0
                  go_wp2_with fail
                  refine (HD2.out _ hbe).mono ?_
                  rintro e wf ⟨E2, ce2, rfl, hE2, hbf⟩
                  have HE2 := Lib.hid hE2
                  clear hE2 x0 x1 x2
                  go_wp2_with fail
                  refine ret_below (same_sh E1 E2 DL ce1 ce2 _ _ _ (HE1.out.below hbf) HE2.out HSH.out (by have := HSL.out; omega) rfl rfl) ?_
                  intro wg hbg
                  have HBG := Lib.hid (hbr.trans ((below_trans (below_trans hbe hbf) hbg).mono hbr.size))
                  clear hbe hbf hbg
                  go_wp2_with fail
                  go_roundw
                  case rel => exact ⟨k3 + 1, by omega, by go_num, HBG.out⟩
                  case measure => simp [intOf]; omega
                · obtain rfl : k3 = 3 := by omega
                  go_wp2_with fail
                  go_roundw
                  case rel => exact ⟨k2 + 1, _, by omega, by go_num, HSTr.out, HPCr.out, HLSr.out⟩
                  case measure => simp [intOf]; omega
          · obtain rfl : k2 = 2 := by omega
            go_wp2_with fail
            go_roundw
            case rel => exact ⟨k + 1, _, by omega, by go_num, HST.out⟩
            case measure => simp [intOf]; omega
      · obtain rfl : k = 3 := by omega
        have p0 := HST.out.pp.c0
        have p1 := HST.out.pp.c1
        have p2 := HST.out.pp.c2
        go_wp2_with fail
        go_region_held3 (fun w' => w'.cell? ⟨px, 0, none⟩ = some (.int .i64 (p : Int)) ∧ w'.cell? ⟨px, 1, none⟩ = some (.int .i64 (n : Int)) ∧ w'.cell? ⟨px, 2, none⟩ = some (.int .i64 (q : Int))) (first | go_keep)
          (first
            | (go_at_call 23; refine ret_below (HR1.out _) ?_; intro wk hb; (first | replace HST := Lib.hid (HST.out.below hb) | replace HST := Lib.hid (HST.out.below (below_undrew1 hb))); replace p0 := HST.out.pp.c0; replace p1 := HST.out.pp.c1; replace p2 := HST.out.pp.c2)
            | (go_at_call 24; refine ret_below (HR2.out _) ?_; intro wk2 hb; (first | replace HST := Lib.hid (HST.out.below hb) | replace HST := Lib.hid (HST.out.below (below_undrew1 hb))); replace p0 := HST.out.pp.c0; replace p1 := HST.out.pp.c1; replace p2 := HST.out.pp.c2)
            | (go_at_call 11; refine ret_below (awake_any _ (by first | exact HST.out.env.bases HB.out | exact (HST.out.below (below_drewT _)).env.bases HB.out)) ?_; intro wk3 hb; (first | replace HST := Lib.hid (HST.out.below hb) | replace HST := Lib.hid (HST.out.below (below_undrew1 hb))); replace p0 := HST.out.pp.c0; replace p1 := HST.out.pp.c1; replace p2 := HST.out.pp.c2))
        all_goals
          go_wp2_with fail
          go_ret
          exact RetB.bool rfl HST.out.env.below
  · have HHL := Lib.hid hlight
    have HAW := Lib.hid (fun (W : World) (hb : Below w.heap.size w W) => awake_any W (HB.out.below hb HB.out.1))
    rcases hl : decide ((L0.length : Int) ≤ 500) with _ | _
    · have HLt := Lib.hid (fun (W : World) => show Calls Tryd.prog 10 #[.slice A0 L0.length c0] W (Ret (.bool false) W) from by have := light_any A0 L0.length c0 W; rw [hl] at this; exact this)
      clear hl hlight
      go_enter Tryd.func3, Tryd.ntmps3
      go_wp2_with fail
      refine ret_pure (HLt.out _) ?_
      go_wp2_with fail
      refine ret_below (HAW.out _ (below_alloc _ _)) ?_
      intro w1 hb1
      go_wp2_with fail
      go_ret
      exact RetB.bool rfl (below_trans (below_alloc _ _) hb1)
    · have HLt := Lib.hid (fun (W : World) => show Calls Tryd.prog 10 #[.slice A0 L0.length c0] W (Ret (.bool true) W) from by have := light_any A0 L0.length c0 W; rw [hl] at this; exact this)
      have hl0 := of_decide_eq_true hl
      rcases h1 : decide (20 < (L1.length : Int)) with _ | _
      · have h2 : decide (60 < (L2.length : Int)) = true := decide_eq_true (by have := of_decide_eq_false h1; omega)
        clear hl hlight hl0
        go_enter Tryd.func3, Tryd.ntmps3
        go_wp2_with fail
        refine ret_pure (HLt.out _) ?_
        go_wp2_with fail
        refine ret_below (HAW.out _ (below_alloc _ _)) ?_
        intro w1 hb1
        go_wp2_with fail
        go_ret
        exact RetB.bool rfl (below_trans (below_alloc _ _) hb1)
      · clear hl hlight hl0
        go_enter Tryd.func3, Tryd.ntmps3
        go_wp2_with fail
        refine ret_pure (HLt.out _) ?_
        go_wp2_with fail
        refine ret_below (HAW.out _ (below_alloc _ _)) ?_
        intro w1 hb1
        go_wp2_with fail
        go_ret
        exact RetB.bool rfl (below_trans (below_alloc _ _) hb1)
end Go.Proofs.YtkjpnhhkebbmdaaDoor
namespace Go.Proofs.YtkjpnhhkebbmdaaDoor
open Go.RowKit

theorem cell_block_lt {w : World} {a : Addr} {v : Value} (h : w.cell? a = some v) : a.block < w.heap.size := by
  rcases Nat.lt_or_ge a.block w.heap.size with hlt | hge
  · exact hlt
  · unfold World.cell? at h; simp [Array.getElem?_eq_none hge] at h
theorem open_row {W : World} {x : Addr} {len cap : Nat} {zs : List Int} (hl : len ≤ cap) (hm : cap ≤ maxLen) (hz : zs.length = cap) (hcell : ∀ i, i < zs.length → W.cell? (x.add i) = some (.int .i64 (zs.getD i 0)))
    (hb : ∀ n ∈ zs, -9223372036854775808 ≤ n ∧ n ≤ 9223372036854775807) :
    ∃ ys : List Int, ys.length = len ∧ ys.length ≤ maxLen ∧ IntsAt W (some x) ys ∧ ∀ n ∈ ys, -9223372036854775808 ≤ n ∧ n ≤ 9223372036854775807 := by
  refine ⟨zs.take len, by simp; omega, by simp; omega, fun k hk => ?_, fun n hn => hb n (List.mem_of_mem_take hn)⟩
  have hk' : k < len := by simpa using Nat.lt_of_lt_of_le hk (List.length_take_le _ _)
  have h0 := hcell 0 (by omega)
  have hk0 := hcell k (by omega)
  obtain ⟨b, off, spot⟩ := x
  have hs : spot = none := by simpa [Addr.add] using World.cell?_spot h0
  subst hs
  have hlt := cell_block_lt hk0
  refine ⟨b, off, rfl, ?_, ?_⟩
  · unfold Addr.add at hlt; split at hlt <;> exact hlt
  · have e : (⟨b, off, none⟩ : Addr).add k = ⟨b, off + k, none⟩ := by
      unfold Addr.add; split
      · rename_i h; subst h; rfl
      · rfl
    rw [← e, hk0, nth_eq hk]
    simp [List.getD_eq_getElem?_getD, show k < zs.length by omega]
end Go.Proofs.YtkjpnhhkebbmdaaDoor
namespace Go.Proofs.YtkjpnhhkebbmdaaDoor
open Go.RowKit

theorem open_rowx {W : World} {x : Addr} {len cap : Nat} {zs : List Int} (hl : len ≤ cap) (hm : cap ≤ maxLen) (hz : zs.length = cap) (hcell : ∀ i, i < zs.length → W.cell? (x.add i) = some (.int .i64 (zs.getD i 0)))
    (hb : ∀ n ∈ zs, -9223372036854775808 ≤ n ∧ n ≤ 9223372036854775807) :
    ∃ ys : List Int, ys.length = len ∧ IOK (some x) cap ys.length ∧ IntsAt W (some x) ys ∧ ∀ n ∈ ys, -9223372036854775808 ≤ n ∧ n ≤ 9223372036854775807 := by
  obtain ⟨ys, h1, h2, h3, h4⟩ := open_row hl hm hz hcell hb
  refine ⟨ys, h1, ⟨by omega, hm, (fun e => by cases e), ?_⟩, h3, h4⟩
  rcases Nat.eq_zero_or_pos ys.length with h0 | h0
  · exact .inl h0
  · obtain ⟨b, off, e, _⟩ := h3 0 h0
    injection e with e
    subst e
    exact .inr fun a e2 => by injection e2 with e2; subst e2; rfl
end Go.Proofs.YtkjpnhhkebbmdaaDoor
