/-
  The plain laws of noise: the weights as natural numbers, checked over all valid noise.
-/
import Derived.Test.YtifmmiclhffmhaaNoiseB
namespace Go.Proofs.Ytifmmiclhffmhaa
open Go.RowKit

def wN (T A B c z : Nat) : Nat := A ^ ((c - z) + (z - c)) * B ^ (T - ((c - z) + (z - c))) * (if z = 0 ∨ z = T then B else B - A)

theorem pow_le4 (a k : Nat) (ha : a ≤ 4) : a ^ k ≤ 4 ^ k := Nat.pow_le_pow_left ha k
theorem pow24 (k : Nat) (hk : k ≤ 24) : 4 ^ k ≤ 281474976710656 := by
  have := Nat.pow_le_pow_right (n := 4) (by omega) hk
  simpa using this
theorem wrap_nat (x : Nat) (h : x ≤ 9223372036854775807) : wrap64 (x : Int) = (x : Int) := IntWalk.wrap64_in _ (by omega)
theorem powW_nat (a k : Nat) (ha : a ≤ 4) (hk : k ≤ 24) : powW (a : Int) k = ((a ^ k : Nat) : Int) := by
  induction k with
  | zero => rfl
  | succ k ih =>
    have h1 := pow_le4 a (k + 1) ha
    have h2 := pow24 (k + 1) hk
    rw [powW, ih (by omega), ← Int.natCast_mul, ← Nat.pow_succ]
    exact wrap_nat _ (by rw [← Nat.add_one]; omega)
theorem prod_le (T A B d : Nat) (hA : A ≤ 4) (hB : B ≤ 4) (hT : T ≤ 24) (hd : d ≤ T) : A ^ d * B ^ (T - d) ≤ 281474976710656 := by
  have h1 := Nat.mul_le_mul (pow_le4 A d hA) (pow_le4 B (T - d) hB)
  rw [← Nat.pow_add, show d + (T - d) = T by omega] at h1
  exact Nat.le_trans h1 (pow24 T hT)
theorem weightW_core (x A B : Nat) (T z : Nat) (hx : x ≤ 281474976710656) (hAB : A < B) (hB : B ≤ 4) :
    (if (z : Int) = 0 ∨ (z : Int) = T then wrap64 (wrap64 (x : Int) * B) else wrap64 (wrap64 (x : Int) * (B - A))) = ((x * (if z = 0 ∨ z = T then B else B - A) : Nat) : Int) := by
  rw [wrap_nat x (by omega)]
  by_cases h : z = 0 ∨ z = T
  · have h2 : x * B ≤ x * 4 := Nat.mul_le_mul_left x hB
    rw [if_pos h, if_pos (by omega), ← Int.natCast_mul, wrap_nat _ (by omega)]
  · have h2 : x * (B - A) ≤ x * 4 := Nat.mul_le_mul_left x (by omega)
    rw [if_neg h, if_neg (by omega), show ((B : Int) - (A : Int)) = ((B - A : Nat) : Int) by omega, ← Int.natCast_mul, wrap_nat _ (by omega)]
theorem weightW_nat (T A B c z : Nat) (hT : T ≤ 24) (hAB : A < B) (hB : B ≤ 4) (hc : c ≤ T) (hz : z ≤ T) : weightW T A B c z = ((wN T A B c z : Nat) : Int) := by
  have hd : max ((c : Int) - z) ((z : Int) - c) = (((c - z) + (z - c) : Nat) : Int) := by omega
  have hle : (c - z) + (z - c) ≤ T := by omega
  have hp := prod_le T A B _ (by omega) hB hT hle
  have e1 : ((T : Int) - (((c - z) + (z - c) : Nat) : Int)).toNat = T - ((c - z) + (z - c)) := by omega
  unfold weightW wN
  rw [hd, e1, Int.toNat_natCast, powW_nat A _ (by omega) (by omega), powW_nat B _ hB (by omega), ← Int.natCast_mul]
  exact weightW_core _ A B T z hp hAB hB

/-- All that the statements ask of the weights, at one noise and count. -/
def okAt (T A B c : Nat) : Bool :=
  ((List.range (T + 1)).all fun z => decide (1 ≤ wN T A B c z ∧ wN T A B c z ≤ 1125899906842624)) &&
  decide (((List.range (T + 1)).map (wN T A B c)).sum = (A + B) * B ^ T) &&
  (decide (c = T) || (List.range (T + 1)).all fun z => decide (if z ≤ c then wN T A B c z * A = wN T A B (c + 1) z * B else wN T A B c z * B = wN T A B (c + 1) z * A)) &&
  (List.range T).all fun z => decide (z = 0 ∨ z + 1 = T ∨ (if z < c then wN T A B c z < wN T A B c (z + 1) else wN T A B c (z + 1) < wN T A B c z))
def okAll : Bool := (List.range 24).all fun T => (List.range 5).all fun B => (List.range B).all fun A => A == 0 || (List.range (T + 2)).all fun c => okAt (T + 1) A B c
theorem okAll_true : okAll = true := by decide +kernel
theorem okAt_true (T A B c : Nat) (h1 : 1 ≤ T) (hT : T ≤ 24) (hA : 1 ≤ A) (hAB : A < B) (hB : B ≤ 4) (hc : c ≤ T) : okAt T A B c = true := by
  have h := okAll_true
  unfold okAll at h
  simp only [List.all_eq_true, List.mem_range] at h
  have h2 := h (T - 1) (by omega) B (by omega) A hAB
  rw [Bool.or_eq_true] at h2
  rcases h2 with h2 | h2
  · simp at h2; omega
  · simp only [List.all_eq_true, List.mem_range] at h2
    have h3 := h2 c (by omega)
    rw [show T - 1 + 1 = T by omega] at h3
    exact h3
end Go.Proofs.Ytifmmiclhffmhaa
