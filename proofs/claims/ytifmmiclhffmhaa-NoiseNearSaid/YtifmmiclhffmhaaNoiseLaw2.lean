/-
  The noise of layer 38: drawing, and the odds.
-/
import Derived.Test.YtifmmiclhffmhaaNoiseLaw
namespace Go.Proofs.Ytifmmiclhffmhaa
open Go.RowKit

/-- The place at which a number lies, when the weights are laid one behind the other. -/
def drawZ : List Int → Int → Nat
  | [], _ => 0
  | w :: l, u => if u < w then 0 else 1 + drawZ l (u - w)
def preS (l : List Int) (k : Nat) : Int := (l.take k).sum
theorem preS_succ (l : List Int) (k : Nat) (h : k < l.length) : preS l (k + 1) = preS l k + nth l k := by
  unfold preS; rw [take_snoc_getD l k h, List.sum_append]; simp
theorem preS_zero (l : List Int) : preS l 0 = 0 := rfl
theorem drawZ_step (l : List Int) (u : Int) (k : Nat) (h : k < l.length) (hn : ¬ u < preS l (k + 1)) :
    drawZ (l.drop k) (u - preS l k) = 1 + drawZ (l.drop (k + 1)) (u - preS l (k + 1)) := by
  rw [List.drop_eq_getElem_cons h, drawZ, ← nth_eq h, if_neg (by have := preS_succ l k h; omega), preS_succ l k h]
  congr 2; omega
theorem drawZ_stop (l : List Int) (u : Int) (k : Nat) (h : k < l.length) (hn : u < preS l (k + 1)) :
    drawZ (l.drop k) (u - preS l k) = 0 := by
  rw [List.drop_eq_getElem_cons h, drawZ, ← nth_eq h, if_pos (by have := preS_succ l k h; omega)]
/-- What holds of the weights of valid noise. -/
structure WOK (T A B c : Int) : Prop where
  pos : ∀ k, k < (weightsL T A B c (T + 1).toNat).length → 1 ≤ nth (weightsL T A B c (T + 1).toNat) k ∧ nth (weightsL T A B c (T + 1).toNat) k ≤ 1125899906842624
  sum : preS (weightsL T A B c (T + 1).toNat) (T + 1).toNat = totalW T A B
  tot : 1 ≤ totalW T A B ∧ totalW T A B ≤ 36028797018963968
theorem nth_weightsL (T A B c : Int) (n k : Nat) (h : k < n) : nth (weightsL T A B c n) k = weightW T A B c k := by
  rw [nth_eq (by rw [weightsL_len]; exact h)]; simp [weightsL]
theorem sum_cast (l : List Nat) : (l.map (fun x : Nat => (x : Int))).sum = ((l.sum : Nat) : Int) := by
  induction l with
  | nil => rfl
  | cons x l ih => simp [ih]
theorem sum_bound (l : List Nat) (M : Nat) (h : ∀ x ∈ l, x ≤ M) : l.sum ≤ l.length * M := by
  induction l with
  | nil => simp
  | cons x l ih =>
    have h1 := h x (by simp)
    have h2 := ih (fun y hy => h y (by simp [hy]))
    simp only [List.sum_cons, List.length_cons, Nat.succ_mul]; omega
theorem Good.nats {T A B : Int} (h : Good T A B) : ∃ t a b : Nat, T = t ∧ A = a ∧ B = b ∧ 1 ≤ t ∧ t ≤ 24 ∧ 1 ≤ a ∧ a < b ∧ b ≤ 4 := by
  obtain ⟨h1, h2, h3, h4, h5⟩ := h
  exact ⟨T.toNat, A.toNat, B.toNat, by omega, by omega, by omega, by omega, by omega, by omega, by omega, by omega⟩
theorem okAt_pos {T A B c z : Nat} (h : okAt T A B c = true) (hz : z ≤ T) : 1 ≤ wN T A B c z ∧ wN T A B c z ≤ 1125899906842624 := by
  unfold okAt at h
  simp only [Bool.and_eq_true, List.all_eq_true, List.mem_range, decide_eq_true_eq] at h
  exact h.1.1.1 z (by omega)
theorem okAt_sum {T A B c : Nat} (h : okAt T A B c = true) : ((List.range (T + 1)).map (wN T A B c)).sum = (A + B) * B ^ T := by
  unfold okAt at h
  simp only [Bool.and_eq_true, List.all_eq_true, List.mem_range, decide_eq_true_eq] at h
  exact h.1.1.2
theorem okAt_factor {T A B c z : Nat} (h : okAt T A B c = true) (hc : c < T) (hz : z ≤ T) :
    (z ≤ c → wN T A B c z * A = wN T A B (c + 1) z * B) ∧ (¬ z ≤ c → wN T A B c z * B = wN T A B (c + 1) z * A) := by
  unfold okAt at h
  simp only [Bool.and_eq_true, Bool.or_eq_true, List.all_eq_true, List.mem_range, decide_eq_true_eq] at h
  have h2 := h.1.2
  rcases h2 with h2 | h2
  · omega
  · have h3 := h2 z (by omega)
    by_cases hzc : z ≤ c
    · rw [if_pos hzc] at h3; exact ⟨fun _ => h3, fun q => absurd hzc q⟩
    · rw [if_neg hzc] at h3; exact ⟨fun q => absurd q hzc, fun _ => h3⟩
theorem okAt_near {T A B c z : Nat} (h : okAt T A B c = true) (hz : 1 ≤ z) (hz2 : z + 1 < T) :
    (z < c → wN T A B c z < wN T A B c (z + 1)) ∧ (¬ z < c → wN T A B c (z + 1) < wN T A B c z) := by
  unfold okAt at h
  simp only [Bool.and_eq_true, Bool.or_eq_true, List.all_eq_true, List.mem_range, decide_eq_true_eq] at h
  have h3 := h.2 z (by omega)
  rcases h3 with h3 | h3 | h3
  · omega
  · omega
  · by_cases hzc : z < c
    · rw [if_pos hzc] at h3; exact ⟨fun _ => h3, fun q => absurd hzc q⟩
    · rw [if_neg hzc] at h3; exact ⟨fun q => absurd q hzc, fun _ => h3⟩
theorem weightsL_nat (T A B c : Nat) (n : Nat) (hT : T ≤ 24) (hAB : A < B) (hB : B ≤ 4) (hc : c ≤ T) (hn : n ≤ T + 1) :
    weightsL T A B c n = ((List.range n).map (wN T A B c)).map (fun x : Nat => (x : Int)) := by
  unfold weightsL
  rw [List.map_map]
  refine List.map_congr_left fun z hz => ?_
  have := List.mem_range.1 hz
  exact weightW_nat T A B c z hT hAB hB hc (by omega)
theorem total_nat (T A B : Nat) (hT : T ≤ 24) (hAB : A < B) (hB : B ≤ 4) : totalW T A B = (((A + B) * B ^ T : Nat) : Int) := by
  have h1 := pow_le4 B T hB
  have h2 := pow24 T hT
  have h3 : (A + B) * B ^ T ≤ 8 * 281474976710656 := Nat.mul_le_mul (by omega) (by omega)
  unfold totalW
  rw [Int.toNat_natCast, powW_nat B T hB hT, ← Int.natCast_add, ← Int.natCast_mul]
  exact wrap_nat _ (by omega)
theorem WOK.of {T A B c : Int} (h : Good T A B) (hc : 0 ≤ c ∧ c ≤ T) : WOK T A B c := by
  obtain ⟨t, a, b, rfl, rfl, rfl, h1, h2, h3, h4, h5⟩ := h.nats
  obtain ⟨c, rfl⟩ := Int.eq_ofNat_of_zero_le hc.1
  have hct : c ≤ t := by omega
  have ok := okAt_true t a b c h1 h2 h3 h4 h5 hct
  have e : ((t : Int) + 1).toNat = t + 1 := by omega
  rw [show ((t : Int)) = ((t : Nat) : Int) from rfl] at *
  refine ⟨fun k hk => ?_, ?_, ?_⟩
  · rw [weightsL_len] at hk
    rw [nth_weightsL _ _ _ _ _ _ hk, weightW_nat t a b c k h2 h4 h5 hct (by omega)]
    have := okAt_pos ok (z := k) (by omega)
    omega
  · rw [e, preS, List.take_of_length_le (by rw [weightsL_len]; exact Nat.le_refl _), weightsL_nat t a b c (t + 1) h2 h4 h5 hct (Nat.le_refl _), sum_cast, okAt_sum ok, total_nat t a b h2 h4 h5]
  · rw [total_nat t a b h2 h4 h5, ← okAt_sum ok]
    have hb := sum_bound ((List.range (t + 1)).map (wN t a b c)) 1125899906842624 (by
      intro x hx
      obtain ⟨z, hz, rfl⟩ := List.mem_map.1 hx
      have := List.mem_range.1 hz
      exact (okAt_pos ok (by omega)).2)
    simp only [List.length_map, List.length_range] at hb
    have h25 : (t + 1) * 1125899906842624 ≤ 25 * 1125899906842624 := Nat.mul_le_mul_right _ (by omega)
    have hpos : 1 ≤ ((List.range (t + 1)).map (wN t a b c)).sum := by
      rw [List.range_succ, List.map_append, List.sum_append]
      have := (okAt_pos ok (z := t) (Nat.le_refl _)).1
      simp; omega
    omega
theorem preS_mono {l : List Int} (hp : ∀ k, k < l.length → 1 ≤ nth l k) : ∀ n k, k ≤ n → n ≤ l.length → preS l k + ((n - k : Nat) : Int) ≤ preS l n := by
  intro n k hk
  induction n with
  | zero => intro _; have : k = 0 := by omega
            subst this; simp
  | succ n ih =>
    intro hn
    rcases Nat.eq_or_lt_of_le hk with e | e
    · subst e; simp
    · have := ih (by omega) (by omega)
      have h2 := preS_succ l n (by omega)
      have h3 := hp n (by omega)
      omega

end Go.Proofs.Ytifmmiclhffmhaa
