/-
  What passes the program's test is prime.
-/
import Derived.Test.YthbablmgpjjphaaDoorMrE1
import Derived.Test.YthbablmgpjjphaaDoorMrE2
import Derived.Test.YthbablmgpjjphaaDoorMrE3
import Derived.Test.YthbablmgpjjphaaDoorMrE4
import Derived.Test.YthbablmgpjjphaaDoorMrF
import Derived.Test.YthbablmgpjjphaaDoorMrG
namespace Go.Proofs.YthbablmgpjjphaaDoor

theorem chks_get {lo n r : Nat} (h : chks lo n = true) (h1 : lo < r) (h2 : r ≤ lo + 2 * n) (he : lo % 2 = 0) (ho : r % 2 = 1) : chk r = true := by
  have := chks_at n h ((r - lo - 1) / 2) (by omega)
  rw [show lo + 2 * ((r - lo - 1) / 2) + 1 = r by omega] at this
  exact this
theorem chk_all {r : Nat} (h1 : 180 < r) (h2 : r ≤ 32768) (ho : r % 2 = 1) : chk r = true := by
  rcases Nat.lt_or_ge 190 r with h1 | h
  case inr => exact chks_get chks_180 (by omega) (by omega) (by omega) ho
  rcases Nat.lt_or_ge 196 r with h1 | h
  case inr => exact chks_get chks_190 (by omega) (by omega) (by omega) ho
  rcases Nat.lt_or_ge 210 r with h1 | h
  case inr => exact chks_get chks_196 (by omega) (by omega) (by omega) ho
  rcases Nat.lt_or_ge 226 r with h1 | h
  case inr => exact chks_get chks_210 (by omega) (by omega) (by omega) ho
  rcases Nat.lt_or_ge 238 r with h1 | h
  case inr => exact chks_get chks_226 (by omega) (by omega) (by omega) ho
  rcases Nat.lt_or_ge 256 r with h1 | h
  case inr => exact chks_get chks_238 (by omega) (by omega) (by omega) ho
  rcases Nat.lt_or_ge 276 r with h1 | h
  case inr => exact chks_get chks_256 (by omega) (by omega) (by omega) ho
  rcases Nat.lt_or_ge 306 r with h1 | h
  case inr => exact chks_get chks_276 (by omega) (by omega) (by omega) ho
  rcases Nat.lt_or_ge 330 r with h1 | h
  case inr => exact chks_get chks_306 (by omega) (by omega) (by omega) ho
  rcases Nat.lt_or_ge 366 r with h1 | h
  case inr => exact chks_get chks_330 (by omega) (by omega) (by omega) ho
  rcases Nat.lt_or_ge 418 r with h1 | h
  case inr => exact chks_get chks_366 (by omega) (by omega) (by omega) ho
  rcases Nat.lt_or_ge 478 r with h1 | h
  case inr => exact chks_get chks_418 (by omega) (by omega) (by omega) ho
  rcases Nat.lt_or_ge 576 r with h1 | h
  case inr => exact chks_get chks_478 (by omega) (by omega) (by omega) ho
  rcases Nat.lt_or_ge 708 r with h1 | h
  case inr => exact chks_get chks_576 (by omega) (by omega) (by omega) ho
  rcases Nat.lt_or_ge 936 r with h1 | h
  case inr => exact chks_get chks_708 (by omega) (by omega) (by omega) ho
  rcases Nat.lt_or_ge 1302 r with h1 | h
  case inr => exact chks_get chks_936 (by omega) (by omega) (by omega) ho
  rcases Nat.lt_or_ge 2088 r with h1 | h
  case inr => exact chks_get chks_1302 (by omega) (by omega) (by omega) ho
  rcases Nat.lt_or_ge 2888 r with h1 | h
  case inr => exact chks_get chks_2088 (by omega) (by omega) (by omega) ho
  rcases Nat.lt_or_ge 3688 r with h1 | h
  case inr => exact chks_get chks_2888 (by omega) (by omega) (by omega) ho
  rcases Nat.lt_or_ge 4488 r with h1 | h
  case inr => exact chks_get chks_3688 (by omega) (by omega) (by omega) ho
  rcases Nat.lt_or_ge 5288 r with h1 | h
  case inr => exact chks_get chks_4488 (by omega) (by omega) (by omega) ho
  rcases Nat.lt_or_ge 6088 r with h1 | h
  case inr => exact chks_get chks_5288 (by omega) (by omega) (by omega) ho
  rcases Nat.lt_or_ge 6888 r with h1 | h
  case inr => exact chks_get chks_6088 (by omega) (by omega) (by omega) ho
  rcases Nat.lt_or_ge 7688 r with h1 | h
  case inr => exact chks_get chks_6888 (by omega) (by omega) (by omega) ho
  rcases Nat.lt_or_ge 8488 r with h1 | h
  case inr => exact chks_get chks_7688 (by omega) (by omega) (by omega) ho
  rcases Nat.lt_or_ge 9288 r with h1 | h
  case inr => exact chks_get chks_8488 (by omega) (by omega) (by omega) ho
  rcases Nat.lt_or_ge 10088 r with h1 | h
  case inr => exact chks_get chks_9288 (by omega) (by omega) (by omega) ho
  rcases Nat.lt_or_ge 10888 r with h1 | h
  case inr => exact chks_get chks_10088 (by omega) (by omega) (by omega) ho
  rcases Nat.lt_or_ge 11688 r with h1 | h
  case inr => exact chks_get chks_10888 (by omega) (by omega) (by omega) ho
  rcases Nat.lt_or_ge 12488 r with h1 | h
  case inr => exact chks_get chks_11688 (by omega) (by omega) (by omega) ho
  rcases Nat.lt_or_ge 13288 r with h1 | h
  case inr => exact chks_get chks_12488 (by omega) (by omega) (by omega) ho
  rcases Nat.lt_or_ge 14088 r with h1 | h
  case inr => exact chks_get chks_13288 (by omega) (by omega) (by omega) ho
  rcases Nat.lt_or_ge 14888 r with h1 | h
  case inr => exact chks_get chks_14088 (by omega) (by omega) (by omega) ho
  rcases Nat.lt_or_ge 15688 r with h1 | h
  case inr => exact chks_get chks_14888 (by omega) (by omega) (by omega) ho
  rcases Nat.lt_or_ge 16488 r with h1 | h
  case inr => exact chks_get chks_15688 (by omega) (by omega) (by omega) ho
  rcases Nat.lt_or_ge 17288 r with h1 | h
  case inr => exact chks_get chks_16488 (by omega) (by omega) (by omega) ho
  rcases Nat.lt_or_ge 18088 r with h1 | h
  case inr => exact chks_get chks_17288 (by omega) (by omega) (by omega) ho
  rcases Nat.lt_or_ge 18888 r with h1 | h
  case inr => exact chks_get chks_18088 (by omega) (by omega) (by omega) ho
  rcases Nat.lt_or_ge 19688 r with h1 | h
  case inr => exact chks_get chks_18888 (by omega) (by omega) (by omega) ho
  rcases Nat.lt_or_ge 20488 r with h1 | h
  case inr => exact chks_get chks_19688 (by omega) (by omega) (by omega) ho
  rcases Nat.lt_or_ge 21288 r with h1 | h
  case inr => exact chks_get chks_20488 (by omega) (by omega) (by omega) ho
  rcases Nat.lt_or_ge 22088 r with h1 | h
  case inr => exact chks_get chks_21288 (by omega) (by omega) (by omega) ho
  rcases Nat.lt_or_ge 22888 r with h1 | h
  case inr => exact chks_get chks_22088 (by omega) (by omega) (by omega) ho
  rcases Nat.lt_or_ge 23688 r with h1 | h
  case inr => exact chks_get chks_22888 (by omega) (by omega) (by omega) ho
  rcases Nat.lt_or_ge 24488 r with h1 | h
  case inr => exact chks_get chks_23688 (by omega) (by omega) (by omega) ho
  rcases Nat.lt_or_ge 25288 r with h1 | h
  case inr => exact chks_get chks_24488 (by omega) (by omega) (by omega) ho
  rcases Nat.lt_or_ge 26088 r with h1 | h
  case inr => exact chks_get chks_25288 (by omega) (by omega) (by omega) ho
  rcases Nat.lt_or_ge 26888 r with h1 | h
  case inr => exact chks_get chks_26088 (by omega) (by omega) (by omega) ho
  rcases Nat.lt_or_ge 27688 r with h1 | h
  case inr => exact chks_get chks_26888 (by omega) (by omega) (by omega) ho
  rcases Nat.lt_or_ge 28488 r with h1 | h
  case inr => exact chks_get chks_27688 (by omega) (by omega) (by omega) ho
  rcases Nat.lt_or_ge 29288 r with h1 | h
  case inr => exact chks_get chks_28488 (by omega) (by omega) (by omega) ho
  rcases Nat.lt_or_ge 30088 r with h1 | h
  case inr => exact chks_get chks_29288 (by omega) (by omega) (by omega) ho
  rcases Nat.lt_or_ge 30888 r with h1 | h
  case inr => exact chks_get chks_30088 (by omega) (by omega) (by omega) ho
  rcases Nat.lt_or_ge 31688 r with h1 | h
  case inr => exact chks_get chks_30888 (by omega) (by omega) (by omega) ho
  rcases Nat.lt_or_ge 32488 r with h1 | h
  case inr => exact chks_get chks_31688 (by omega) (by omega) (by omega) ho
  exact chks_get chks_32488 (by omega) (by omega) (by omega) ho
def Q181 : List Nat := [11, 13, 17, 19, 23, 29, 31, 37, 41, 43, 47, 53, 59, 61, 67, 71, 73, 79, 83, 89, 97, 101, 103, 107, 109, 113, 127, 131, 137, 139, 149, 151, 157, 163, 167, 173, 179, 181]
theorem Q_sorted : Q181.Pairwise (· ≤ ·) := by decide +kernel
theorem Q_prime : ∀ q ∈ Q181, primeB q 20 = true := by decide +kernel
theorem Q_all : ∀ q, q < 182 → q < 2 ∨ q ∈ Q181 ∨ q ∈ [2, 3, 5, 7] ∨ ∃ d, d < q ∧ 1 < d ∧ q % d = 0 := by
  have h : ∀ q, q < 182 → q < 2 ∨ q ∈ Q181 ∨ q ∈ [2, 3, 5, 7] ∨ (2 < q ∧ q % 2 = 0) ∨ (3 < q ∧ q % 3 = 0) ∨ (5 < q ∧ q % 5 = 0) ∨ (7 < q ∧ q % 7 = 0) ∨ (11 < q ∧ q % 11 = 0) ∨ (13 < q ∧ q % 13 = 0) := by decide +kernel
  intro q hq
  rcases h q hq with h | h | h | h | h | h | h | h | h
  · exact .inl h
  · exact .inr (.inl h)
  · exact .inr (.inr (.inl h))
  all_goals exact .inr (.inr (.inr ⟨_, h.1, by omega, h.2⟩))
theorem Pass4.nd {n : Nat} (h : Pass4 n) {q : Nat} (hd : q ∣ n) (hq : q ∈ [2, 3, 5, 7]) : False := by
  have k : ∀ b, 2 ≤ b → Nat.Coprime n b → ¬ b ∣ n := fun b hb hc hd => by
    have : b ∣ Nat.gcd n b := Nat.dvd_gcd hd (Nat.dvd_refl b)
    rw [hc] at this
    have := Nat.le_of_dvd (by omega) this; omega
  simp only [List.mem_cons, List.not_mem_nil, or_false] at hq
  rcases hq with rfl | rfl | rfl | rfl
  · exact k 2 (by omega) h.c2 hd
  · exact k 3 (by omega) h.c3 hd
  · exact k 5 (by omega) h.c5 hd
  · exact k 7 (by omega) h.c7 hd
theorem Pass4.small {n : Nat} (h : Pass4 n) {q : Nat} (hq : PrimeN q) (hd : q ∣ n) (hs : q < 182) : q ∈ Q181 := by
  have h2 := hq.1
  rcases Q_all q hs with e | e | e | ⟨d, d1, d2, d3⟩
  · omega
  · exact e
  · exact (h.nd hd e).elim
  · rcases hq.2 d (Nat.dvd_of_mod_eq_zero d3) with e | e <;> omega
theorem pass4_prime {n : Nat} (h : Pass4 n) : PrimeN n := by
  refine Classical.byContradiction fun hn => ?_
  have hlo := h.lo
  have hhi := h.hi
  have hodd := h.odd
  have hs2 : ∀ r s, PrimeN r → n = r * s → 2 ≤ s := fun r s hr e => by
    rcases Nat.lt_or_ge s 2 with h1 | h1
    · exfalso
      have : s = 0 ∨ s = 1 := by omega
      rcases this with e1 | e1
      · subst e1; omega
      · subst e1; rw [Nat.mul_one] at e; exact hn (e ▸ hr)
    · exact h1
  by_cases hB : ∃ r, PrimeN r ∧ r ∣ n ∧ 181 < r ∧ r ≤ 32768
  · obtain ⟨r, hr, ⟨s, hrs⟩, h1, h2⟩ := hB
    have hro : r % 2 = 1 := by
      rcases Nat.mod_two_eq_zero_or_one r with e | e
      · have : n % 2 = 0 := by rw [hrs, Nat.mul_mod, e]; simp
        omega
      · exact e
    exact chk_no hr h1 (chk_all (by omega) h2 hro) (hs2 r s hr hrs) (hrs ▸ h)
  · have hcase : ∀ q, PrimeN q → q ∣ n → q ∈ Q181 ∨ 32768 < q := fun q hq hd => by
      rcases Nat.lt_or_ge q 182 with h1 | h1
      · exact .inl (h.small hq hd h1)
      · right
        rcases Nat.lt_or_ge 32768 q with h2 | h2
        · exact h2
        · exact absurd ⟨q, hq, hd, by omega, h2⟩ hB
    by_cases hA : ∃ r, PrimeN r ∧ r ∣ n ∧ 32768 < r
    · obtain ⟨r, hr, ⟨s, hrs⟩, h1⟩ := hA
      have hs := hs2 r s hr hrs
      have hsl : s < 32768 := by
        rcases Nat.lt_or_ge s 32768 with h2 | h2
        · exact h2
        · have := Nat.mul_le_mul (show 32769 ≤ r by omega) h2; omega
      have hA := dfsA
      rw [frc_eq] at hA
      have hc := dfs_at 5 1 Q181 hA (by omega) Q_sorted s hs (fun q hq hd => by
        rcases hcase q hq (hrs ▸ Nat.dvd_trans hd (Nat.dvd_mul_left s r)) with e | e
        · exact e
        · have := Nat.le_of_dvd (by omega) hd; omega) (by omega)
      rw [Nat.one_mul] at hc
      exact chkA_no hr (by omega) hs (by omega) hc (hrs ▸ h)
    · rcases allS_Q.at Q_sorted n (by omega) (fun q hq hd => by
        rcases hcase q hq hd with e | e
        · exact e
        · exact absurd ⟨q, hq, hd, e⟩ hA) (by omega) with h1 | h1
      · exact hn (primeB_sound (Q_prime n h1))
      · exact tstQ_no h h1
theorem validI_sound {n : Nat} (h : validI (n : Int) = true) : PrimeN n := by
  rcases valid_pass h with e | e | e | e | h
  · subst e; exact prime_2
  · subst e; exact prime_3
  · subst e; exact prime_5
  · subst e; exact prime_7
  · exact pass4_prime h
end Go.Proofs.YthbablmgpjjphaaDoor
