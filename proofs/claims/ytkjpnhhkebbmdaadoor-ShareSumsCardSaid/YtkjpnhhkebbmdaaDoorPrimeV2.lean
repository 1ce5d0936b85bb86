/-
  Every prime passes the program's test.
-/
import Derived.Test.YtkjpnhhkebbmdaaDoorFieldW
import Derived.Test.YtkjpnhhkebbmdaaDoorFldP
namespace Go.Proofs.YtkjpnhhkebbmdaaDoor
open Go.RowKit

theorem sqrt_one {p x : Nat} (hp : PrimeN p) (hx : x < p) (h : fmul p x x = 1) : x = 1 ∨ x = p - 1 := by
  have h2 := hp.1
  rcases Nat.eq_zero_or_pos x with h0 | h0
  · subst h0; unfold fmul at h; simp at h
  · have hd : p ∣ (x - 1) * (x + 1) := by
      have e : (x - 1) * (x + 1) = x * x - 1 := by
        obtain ⟨y, rfl⟩ : ∃ y, x = y + 1 := ⟨x - 1, by omega⟩
        simp only [Nat.add_sub_cancel, Nat.add_mul, Nat.mul_add]; omega
      rw [e]
      have hxx : 1 ≤ x * x := Nat.mul_pos h0 h0
      refine (Nat.dvd_iff_mod_eq_zero).2 ?_
      unfold fmul at h
      have := Nat.sub_mod_eq_zero_of_mod_eq (m := x * x) (n := 1) (k := p) (by rw [h, Nat.mod_eq_of_lt (by omega)])
      exact this
    rcases hp.euclid hd with h1 | h1
    · left
      rcases Nat.eq_zero_or_pos (x - 1) with h3 | h3
      · omega
      · have := Nat.le_of_dvd h3 h1; omega
    · right
      have := Nat.le_of_dvd (by omega) h1; omega
theorem mrGo_prime {p : Nat} (hp : PrimeN p) : ∀ k x, x < p → ¬ x = 1 → ¬ x = p - 1 → fpow p x (2 ^ (k + 1)) = 1 → mrGo p k x = true
  | 0, x, hx, h1, h2, h => by
    exfalso
    have : fmul p x x = 1 := by rw [← h]; unfold fmul fpow; rw [Nat.zero_add, Nat.pow_one, Nat.pow_two]
    rcases sqrt_one hp hx this with e | e
    · exact h1 e
    · exact h2 e
  | k + 1, x, hx, h1, h2, h => by
    by_cases hy : fmul p x x = p - 1
    · exact mrGo_yes p k x hy
    · rw [mrGo_no p k x hy]
      have hp1 := hp.1
      refine mrGo_prime hp k _ (fmul_lt (by omega) _ _) (fun e => ?_) hy ?_
      · rcases sqrt_one hp hx e with e | e
        · exact h1 e
        · exact h2 e
      · have e : fpow p (fmul p x x) (2 ^ (k + 1)) = fpow p x (2 ^ (k + 1 + 1)) := by
          unfold fmul fpow
          rw [← Nat.pow_mod, ← Nat.pow_two, ← Nat.pow_mul, ← Nat.pow_succ']
        rw [e]; exact h
theorem mrPass_prime {p b : Nat} (hp : PrimeN p) (h3 : 3 ≤ p) (hb : ¬ p ∣ b) : mrPass p b = true := by
  by_cases h : mrX p b = 1 ∨ mrX p b = 0 ∨ mrX p b = p - 1
  · exact (mr_first p b h).symm
  · rw [← mr_later p b h]
    have hs : 1 ≤ mrS p := by
      rcases Nat.eq_zero_or_pos (mrS p) with h0 | h0
      · exfalso
        have hm := mr_mul p
        rw [h0, Nat.pow_zero, Nat.mul_one] at hm
        have hx : mrX p b = 1 := by
          unfold mrX fpow
          rw [hm, ← Nat.pow_mod]; exact flt hp hb
        exact h (.inl hx)
      · exact h0
    refine mrGo_prime hp _ _ (fpow_lt (by omega) _ _) (fun e => h (.inl e)) (fun e => h (.inr (.inr e))) ?_
    rw [show mrS p - 1 + 1 = mrS p by omega]
    unfold mrX fpow
    rw [← Nat.pow_mod, ← Nat.pow_mul, mr_mul, ← Nat.pow_mod]
    exact flt hp hb
theorem vGo_prime {p : Nat} (hp : PrimeN p) (h3 : 3 ≤ p) : ∀ l : List Nat, (∀ b ∈ l, PrimeN b) → vGo p l = true
  | [], _ => rfl
  | b :: l, hl => by
    by_cases hpb : p = b
    · exact vGo_eq hpb
    · have hb := hl b (by simp)
      have hnd : ¬ p % b = 0 := fun e => by
        rcases hp.2 b (Nat.dvd_of_mod_eq_zero e) with e | e
        · have := hb.1; omega
        · exact hpb e.symm
      have hnb : ¬ p ∣ b := fun e => by
        rcases hb.2 p e with e | e
        · omega
        · exact hpb e
      rw [vGo_pass hpb hnd (mrPass_prime hp h3 hnb)]
      exact vGo_prime hp h3 l (fun c hc => hl c (by simp [hc]))
theorem validI_prime {p : Nat} (hp : PrimeN p) (h : p ≤ 1073741824) : validI (p : Int) = true := by
  have h2 := hp.1
  rw [← validI_nat h2]
  by_cases he : p = 2
  · subst he; rfl
  · have hodd : ¬ (2 < p ∧ p % 2 = 0) := fun ⟨h4, h5⟩ => by
      rcases hp.2 2 (Nat.dvd_of_mod_eq_zero h5) with e | e
      · omega
      · omega
    rw [← validF_go (by omega)]
    refine vGo_prime hp (by omega) _ (fun b hb => ?_)
    simp at hb
    rcases hb with rfl | rfl | rfl | rfl
    · exact prime_2
    · exact prime_3
    · exact prime_5
    · exact prime_7
end Go.Proofs.YtkjpnhhkebbmdaaDoor
