/-
  What passes the program's test: Fermat's law for the four bases; a quick test for the kernel.
-/
import Derived.Test.YthbablmgpjjphaaDoorPrimeV
namespace Go.Proofs.YthbablmgpjjphaaDoor
open Go.RowKit

/-- b^e % n in three steps. -/
def fpk (k K b e n : Nat) : Nat := Nat.mod (Nat.mul (Nat.pow (Nat.mod (Nat.mul (Nat.pow (Nat.mod (Nat.pow b (Nat.div e K)) n) k) (Nat.pow b (Nat.mod (Nat.div e k) k))) n) k) (Nat.pow b (Nat.mod e k))) n
theorem fpk_eq (k K b e n : Nat) (hK : K = k * k) : fpk k K b e n = b ^ e % n := by
  show (((b ^ (e / K) % n) ^ k * b ^ (e / k % k) % n) ^ k * b ^ (e % k)) % n = b ^ e % n
  have h1 : ∀ x y : Nat, ((x % n) ^ k * y) % n = (x ^ k * y) % n := fun x y => by
    rw [Nat.mul_mod, ← Nat.pow_mod, ← Nat.mul_mod]
  have h2 : ∀ x y z : Nat, (((x % n) ^ k * y) ^ k * z) % n = ((x ^ k * y) ^ k * z) % n := fun x y z => by
    rw [Nat.mul_mod, Nat.pow_mod, h1, ← Nat.pow_mod, ← Nat.mul_mod]
  rw [h1, h2]
  simp only [← Nat.pow_mul, ← Nat.pow_add]
  congr 2
  rw [hK, ← Nat.div_div_eq_div_mul, Nat.mul_comm (e / k / k) k, Nat.div_add_mod, Nat.mul_comm, Nat.div_add_mod]
def fp (b e n : Nat) : Nat := fpk 1024 1048576 b e n
theorem fp_eq (b e n : Nat) : fp b e n = b ^ e % n := fpk_eq 1024 1048576 b e n (by decide +kernel)
/-! ### Passing is Fermat's law -/
theorem sq_pred {n : Nat} (h : 2 ≤ n) : (n - 1) ^ 2 % n = 1 := by
  have e : (n - 1) ^ 2 = n * (n - 2) + 1 := by
    obtain ⟨m, rfl⟩ : ∃ m, n = m + 2 := ⟨n - 2, by omega⟩
    simp only [Nat.add_sub_cancel, show m + 2 - 1 = m + 1 by omega, Nat.pow_two, Nat.add_mul, Nat.mul_add]; omega
  rw [e, Nat.mul_add_mod]; exact Nat.mod_eq_of_lt (by omega)
theorem pow_one_mod {n x k : Nat} (hn : 2 ≤ n) (h : x % n = 1) : x ^ k % n = 1 := by
  rw [Nat.pow_mod, h, Nat.one_pow]; exact Nat.mod_eq_of_lt (by omega)
theorem mrGo_fermat {n : Nat} (hn : 2 ≤ n) : ∀ k x, mrGo n k x = true → ∃ j, 1 ≤ j ∧ j ≤ k ∧ x ^ (2 ^ j) % n = n - 1
  | 0, x, h => by simp [mrGo] at h
  | k + 1, x, h => by
    by_cases hy : fmul n x x = n - 1
    · exact ⟨1, by omega, by omega, by rw [← hy]; unfold fmul; rw [Nat.pow_one, Nat.pow_two]⟩
    · rw [mrGo_no n k x hy] at h
      obtain ⟨j, h1, h2, h3⟩ := mrGo_fermat hn k _ h
      refine ⟨j + 1, by omega, by omega, ?_⟩
      rw [← h3]
      unfold fmul
      rw [← Nat.pow_mod, ← Nat.pow_two, ← Nat.pow_mul, ← Nat.pow_succ']
theorem pow_up {n x j s : Nat} (hn : 2 ≤ n) (hj : j < s) (h : x ^ (2 ^ j) % n = n - 1) : x ^ (2 ^ s) % n = 1 := by
  have e : 2 ^ s = 2 ^ j * 2 * 2 ^ (s - j - 1) := by
    rw [← Nat.pow_succ, ← Nat.pow_add]; congr 1; omega
  rw [e, Nat.pow_mul]
  refine pow_one_mod hn ?_
  rw [Nat.pow_mul, Nat.pow_mod, h]; exact sq_pred hn
theorem pass_fermat {n b : Nat} (hn : 3 ≤ n) (hn2 : n ≤ 2147483648) (hodd : n % 2 = 1) (hc : Nat.Coprime n b) (h : mrPass n b = true) : b ^ (n - 1) % n = 1 := by
  have hm := mr_mul n
  have hx : mrX n b = b ^ mrD n % n := by unfold mrX fpow; rw [← Nat.pow_mod]
  have hs : 1 ≤ mrS n := by
    rcases Nat.eq_zero_or_pos (mrS n) with h0 | h0
    · exfalso
      have hd := mr_odd n (by omega) hn2
      rw [h0, Nat.pow_zero, Nat.mul_one] at hm
      omega
    · exact h0
  have key : ∀ j, j < mrS n → (b ^ mrD n) ^ (2 ^ j) % n = n - 1 → b ^ (n - 1) % n = 1 := fun j hj he => by
    rw [← hm, Nat.pow_mul]; exact pow_up (by omega) hj he
  by_cases h1 : mrX n b = 1
  · rw [← hm, Nat.pow_mul]; exact pow_one_mod (by omega) (by rw [← hx]; exact h1)
  · by_cases h2 : mrX n b = 0
    · exfalso
      rw [hx] at h2
      have hd : n ∣ b ^ mrD n := Nat.dvd_of_mod_eq_zero h2
      have := (Nat.Coprime.pow_right (mrD n) hc).eq_one_of_dvd hd
      omega
    · by_cases h3 : mrX n b = n - 1
      · exact key 0 hs (by rw [Nat.pow_zero, Nat.pow_one, ← hx]; exact h3)
      · rw [← mr_later n b (by intro h; rcases h with h | h | h <;> contradiction)] at h
        obtain ⟨j, j1, j2, j3⟩ := mrGo_fermat (by omega) _ _ h
        refine key j (by omega) ?_
        rw [hx, ← Nat.pow_mod] at j3; exact j3
/-! ### A quick test -/
def mrXF (n b : Nat) : Nat := fp (b % n) (mrD n) n
theorem mrXF_eq (n b : Nat) : mrXF n b = mrX n b := by unfold mrXF mrX fpow; exact fp_eq _ _ _
def mrPassF (n b : Nat) : Bool := if mrXF n b = 1 ∨ mrXF n b = 0 ∨ mrXF n b = n - 1 then true else mrGo n (mrS n - 1) (mrXF n b)
theorem mrPassF_eq (n b : Nat) : mrPassF n b = mrPass n b := by unfold mrPassF mrPass; rw [mrXF_eq]
/-- n does not pass. -/
def tst (n : Nat) : Bool := !(Nat.beq (fp 2 (n - 1) n) 1) || !(mrPassF n 2 && mrPassF n 3 && mrPassF n 5 && mrPassF n 7)
/-- n passes for all four bases, and is prime to them. -/
structure Pass4 (n : Nat) : Prop where
  lo : 3 ≤ n
  hi : n ≤ 1073741824
  odd : n % 2 = 1
  c2 : Nat.Coprime n 2
  c3 : Nat.Coprime n 3
  c5 : Nat.Coprime n 5
  c7 : Nat.Coprime n 7
  p2 : mrPass n 2 = true
  p3 : mrPass n 3 = true
  p5 : mrPass n 5 = true
  p7 : mrPass n 7 = true
theorem Pass4.tst {n : Nat} (h : Pass4 n) : tst n = false := by
  have h2 := pass_fermat h.lo (by have := h.hi; omega) h.odd h.c2 h.p2
  unfold Go.Proofs.YthbablmgpjjphaaDoor.tst
  rw [mrPassF_eq, mrPassF_eq, mrPassF_eq, mrPassF_eq, h.p2, h.p3, h.p5, h.p7, fp_eq, h2]; rfl
theorem Pass4.f2 {n : Nat} (h : Pass4 n) : 2 ^ (n - 1) % n = 1 := pass_fermat h.lo (by have := h.hi; omega) h.odd h.c2 h.p2
theorem Pass4.f3 {n : Nat} (h : Pass4 n) : 3 ^ (n - 1) % n = 1 := pass_fermat h.lo (by have := h.hi; omega) h.odd h.c3 h.p3
theorem Pass4.f5 {n : Nat} (h : Pass4 n) : 5 ^ (n - 1) % n = 1 := pass_fermat h.lo (by have := h.hi; omega) h.odd h.c5 h.p5
theorem Pass4.f7 {n : Nat} (h : Pass4 n) : 7 ^ (n - 1) % n = 1 := pass_fermat h.lo (by have := h.hi; omega) h.odd h.c7 h.p7
theorem coprime_of_mod {n q : Nat} (hq : PrimeN q) (h : ¬ n % q = 0) : Nat.Coprime n q := by
  have := hq.coprime (a := n) (fun e => h (Nat.mod_eq_zero_of_dvd e))
  exact this.symm
theorem vGo_step {n b : Nat} {l : List Nat} (h : vGo n (b :: l) = true) : n = b ∨ (¬ n % b = 0 ∧ mrPass n b = true ∧ vGo n l = true) := by
  by_cases h1 : n = b
  · exact .inl h1
  · by_cases h2 : n % b = 0
    · rw [vGo_div h1 h2] at h; cases h
    · by_cases h3 : mrPass n b = true
      · rw [vGo_pass h1 h2 h3] at h; exact .inr ⟨h2, h3, h⟩
      · rw [vGo_fail h1 h2 (by simpa using h3)] at h; cases h
theorem valid_pass {n : Nat} (h : validI (n : Int) = true) : n = 2 ∨ n = 3 ∨ n = 5 ∨ n = 7 ∨ Pass4 n := by
  have h2 : 2 ≤ n := by
    rcases Nat.lt_or_ge n 2 with h1 | h1
    · rw [← validI_small (p := (n : Int)) (by omega)] at h; cases h
    · exact h1
  rw [← validI_nat h2] at h
  by_cases hb : n < 2 ∨ 1073741824 < n ∨ (2 < n ∧ n % 2 = 0)
  · unfold validF at h; rw [if_pos hb] at h; cases h
  · rw [← validF_go hb] at h
    rcases vGo_step h with e | ⟨a2, b2, h⟩
    · exact .inl e
    · rcases vGo_step h with e | ⟨a3, b3, h⟩
      · exact .inr (.inl e)
      · rcases vGo_step h with e | ⟨a5, b5, h⟩
        · exact .inr (.inr (.inl e))
        · rcases vGo_step h with e | ⟨a7, b7, -⟩
          · exact .inr (.inr (.inr (.inl e)))
          · exact .inr (.inr (.inr (.inr ⟨by omega, by omega, by omega, coprime_of_mod prime_2 a2, coprime_of_mod prime_3 a3, coprime_of_mod prime_5 a5, coprime_of_mod prime_7 a7, b2, b3, b5, b7⟩)))
end Go.Proofs.YthbablmgpjjphaaDoor
