/-
  Plain arithmetic: primes, Fermat's little theorem. No program in sight.
-/
namespace Go.Proofs.YtkjpnhhkebbmdaaDoor

def PrimeN (p : Nat) : Prop := 2 ≤ p ∧ ∀ d, d ∣ p → d = 1 ∨ d = p

theorem PrimeN.coprime {p a : Nat} (hp : PrimeN p) (h : ¬ p ∣ a) : Nat.Coprime p a := by
  rcases hp.2 _ (Nat.gcd_dvd_left p a) with h1 | h1
  · exact h1
  · exact absurd (h1 ▸ Nat.gcd_dvd_right p a) h
theorem PrimeN.euclid {p a b : Nat} (hp : PrimeN p) (h : p ∣ a * b) : p ∣ a ∨ p ∣ b := by
  by_cases ha : p ∣ a
  · exact .inl ha
  · exact .inr ((hp.coprime ha).dvd_of_dvd_mul_left h)
theorem PrimeN.pow {p a : Nat} (hp : PrimeN p) : ∀ n, p ∣ a ^ n → p ∣ a := by
  intro n
  induction n with
  | zero => intro h; have h1 := Nat.le_of_dvd (by simp) h; have := hp.1; rw [Nat.pow_zero] at h1; omega
  | succ n ih =>
    intro h; rw [Nat.pow_succ] at h
    rcases hp.euclid h with h | h
    · exact ih h
    · exact h

theorem perm_of_sub {α : Type} [DecidableEq α] : ∀ (l m : List α), l.Nodup → m.length ≤ l.length → (∀ x ∈ l, x ∈ m) → l.Perm m
  | [], m, _, hl, _ => by
    have : m = [] := List.eq_nil_of_length_eq_zero (by simpa using hl)
    subst this; exact List.Perm.nil
  | x :: l, m, hn, hl, hs => by
    have hx : x ∈ m := hs x (by simp)
    have hp := List.perm_cons_erase hx
    rw [List.nodup_cons] at hn
    have ih := perm_of_sub l (m.erase x) hn.2 (by rw [List.length_erase_of_mem hx]; simp at hl; omega) (fun y hy => by
      have hne : y ≠ x := fun e => hn.1 (e ▸ hy)
      exact (List.mem_erase_of_ne hne).2 (hs y (by simp [hy])))
    exact (List.Perm.cons x ih).trans hp.symm

def prodL : List Nat → Nat
  | [] => 1
  | x :: l => x * prodL l
theorem prodL_perm {l m : List Nat} (h : l.Perm m) : prodL l = prodL m := by
  induction h with
  | nil => rfl
  | cons x _ ih => simp [prodL, ih]
  | swap x y l => simp only [prodL]; rw [Nat.mul_left_comm]
  | trans _ _ h1 h2 => exact h1.trans h2
theorem prodL_map_mod (p a : Nat) : ∀ l : List Nat, prodL (l.map fun x => a * x % p) % p = a ^ l.length * prodL l % p
  | [] => by simp [prodL]
  | x :: l => by
    have ih := prodL_map_mod p a l
    simp only [List.map_cons, prodL, List.length_cons]
    rw [Nat.mul_mod, Nat.mod_mod, ih, ← Nat.mul_mod, Nat.pow_succ]
    congr 1
    simp only [Nat.mul_assoc, Nat.mul_left_comm, Nat.mul_comm]
theorem prime_prodL {p : Nat} (hp : PrimeN p) : ∀ l : List Nat, (∀ x ∈ l, ¬ p ∣ x) → ¬ p ∣ prodL l
  | [], _, h => by have h1 := Nat.le_of_dvd (by decide) h; have := hp.1; simp only [prodL] at h1; omega
  | x :: l, hl, h => by
    rcases hp.euclid h with h | h
    · exact hl x (by simp) h
    · exact prime_prodL hp l (fun y hy => hl y (by simp [hy])) h
theorem nodup_map_inj {α β : Type} {f : α → β} : ∀ l : List α, l.Nodup → (∀ x ∈ l, ∀ y ∈ l, f x = f y → x = y) → (l.map f).Nodup
  | [], _, _ => by simp
  | x :: l, hn, hi => by
    rw [List.nodup_cons] at hn
    rw [List.map_cons, List.nodup_cons]
    refine ⟨fun h => ?_, nodup_map_inj l hn.2 (fun y hy z hz => hi y (by simp [hy]) z (by simp [hz]))⟩
    obtain ⟨y, hy, e⟩ := List.mem_map.1 h
    have := hi y (by simp [hy]) x (by simp) e
    exact hn.1 (this ▸ hy)

theorem mod_of_dvd_sub {p b c : Nat} (h : b ≤ c) (hd : p ∣ c - b) : b % p = c % p := by
  obtain ⟨k, hk⟩ := hd
  have : c = b + p * k := by omega
  rw [this, Nat.add_mul_mod_self_left]
theorem dvd_sub_of_mod {p b c : Nat} (h : b % p = c % p) : p ∣ c - b := Nat.dvd_of_mod_eq_zero (Nat.sub_mod_eq_zero_of_mod_eq h.symm)
theorem mod_cancel {p a b c : Nat} (hp : PrimeN p) (ha : ¬ p ∣ a) (h : a * b % p = a * c % p) : b % p = c % p := by
  rcases Nat.le_total b c with hbc | hbc
  · have h1 : p ∣ a * (c - b) := by rw [Nat.mul_sub]; exact dvd_sub_of_mod h
    rcases hp.euclid h1 with h2 | h2
    · exact absurd h2 ha
    · exact mod_of_dvd_sub hbc h2
  · have h1 : p ∣ a * (b - c) := by rw [Nat.mul_sub]; exact dvd_sub_of_mod h.symm
    rcases hp.euclid h1 with h2 | h2
    · exact absurd h2 ha
    · exact (mod_of_dvd_sub hbc h2).symm

/-- Fermat's little theorem. -/
theorem flt {p a : Nat} (hp : PrimeN p) (ha : ¬ p ∣ a) : a ^ (p - 1) % p = 1 := by
  have hp2 := hp.1
  have hmem : ∀ x, x ∈ List.range' 1 (p - 1) ↔ 1 ≤ x ∧ x < p := by
    intro x; rw [List.mem_range'_1]; omega
  have hnd : ∀ x ∈ List.range' 1 (p - 1), ¬ p ∣ x := by
    intro x hx h
    have := (hmem x).1 hx
    have := Nat.le_of_dvd (by omega) h
    omega
  have hperm : (List.map (fun x => a * x % p) (List.range' 1 (p - 1))).Perm (List.range' 1 (p - 1)) := by
    refine perm_of_sub _ _ (nodup_map_inj _ List.nodup_range' ?_) (by simp) ?_
    · intro x hx y hy e
      have h := mod_cancel hp ha e
      rwa [Nat.mod_eq_of_lt ((hmem x).1 hx).2, Nat.mod_eq_of_lt ((hmem y).1 hy).2] at h
    · intro y hy
      obtain ⟨x, hx, rfl⟩ := List.mem_map.1 hy
      rw [hmem]
      refine ⟨?_, Nat.mod_lt _ (by omega)⟩
      rcases Nat.eq_zero_or_pos (a * x % p) with h0 | h0
      · rcases hp.euclid (Nat.dvd_of_mod_eq_zero h0) with h | h
        · exact absurd h ha
        · exact absurd h (hnd x hx)
      · exact h0
  have h1 := prodL_map_mod p a (List.range' 1 (p - 1))
  rw [prodL_perm hperm, List.length_range'] at h1
  have h2 : prodL (List.range' 1 (p - 1)) * 1 % p = prodL (List.range' 1 (p - 1)) * a ^ (p - 1) % p := by rw [Nat.mul_one, h1, Nat.mul_comm]
  have h3 := mod_cancel hp (prime_prodL hp _ hnd) h2
  rw [← h3, Nat.mod_eq_of_lt (by omega)]

/-- A number is prime if none of the numbers up to its root divides it. -/
def primeB (p s : Nat) : Bool := decide (2 ≤ p) && decide (p < (s + 2) * (s + 2)) && (List.range s).all fun d => decide (p % (d + 2) ≠ 0) || decide (p ≤ d + 2)
theorem primeB_sound {p s : Nat} (h : primeB p s = true) : PrimeN p := by
  unfold primeB at h
  simp only [Bool.and_eq_true, Bool.or_eq_true, decide_eq_true_eq, List.all_eq_true, List.mem_range] at h
  obtain ⟨⟨h2, hs⟩, hall⟩ := h
  have key : ∀ d, 2 ≤ d → d < s + 2 → d ∣ p → p ≤ d := by
    intro d hd2 hds hdp
    have := hall (d - 2) (by omega)
    rw [show d - 2 + 2 = d by omega] at this
    rcases this with h | h
    · exact absurd (Nat.mod_eq_zero_of_dvd hdp) h
    · exact h
  refine ⟨h2, fun d hd => ?_⟩
  obtain ⟨e, he⟩ := hd
  rcases Nat.lt_or_ge d 2 with h | hd2
  · have : d ≠ 0 := by rintro rfl; rw [Nat.zero_mul] at he; omega
    left; omega
  rcases Nat.lt_or_ge d (s + 2) with h | h
  · have := key d hd2 h ⟨e, he⟩
    have := Nat.le_of_dvd (by omega) (show d ∣ p from ⟨e, he⟩)
    right; omega
  · have hes : e < s + 2 := by
      rcases Nat.lt_or_ge e (s + 2) with h' | h'
      · exact h'
      · have := Nat.mul_le_mul h h'; omega
    rcases Nat.lt_or_ge e 2 with h' | h'
    · have : e ≠ 0 := by rintro rfl; rw [Nat.mul_zero] at he; omega
      have : e = 1 := by omega
      subst this; right; omega
    · have := key e h' hes ⟨d, by rw [he, Nat.mul_comm]⟩
      have h3 : d * e ≥ 2 * e := Nat.mul_le_mul_right e hd2
      omega
theorem prime_7 : PrimeN 7 := primeB_sound (s := 2) (by decide +kernel)
theorem prime_2 : PrimeN 2 := primeB_sound (s := 0) (by decide +kernel)
theorem prime_3 : PrimeN 3 := primeB_sound (s := 0) (by decide +kernel)
theorem prime_5 : PrimeN 5 := primeB_sound (s := 1) (by decide +kernel)
theorem prime_11 : PrimeN 11 := primeB_sound (s := 2) (by decide +kernel)
theorem prime_13 : PrimeN 13 := primeB_sound (s := 2) (by decide +kernel)
theorem prime_23 : PrimeN 23 := primeB_sound (s := 3) (by decide +kernel)
theorem prime_101 : PrimeN 101 := primeB_sound (s := 9) (by decide +kernel)
theorem prime_257 : PrimeN 257 := primeB_sound (s := 15) (by decide +kernel)
theorem prime_65537 : PrimeN 65537 := primeB_sound (s := 255) (by decide +kernel)
theorem prime_1000003 : PrimeN 1000003 := primeB_sound (s := 1000) (by decide +kernel)
theorem prime_500000003 : PrimeN 500000003 := primeB_sound (s := 22360) (by decide +kernel)
end Go.Proofs.YtkjpnhhkebbmdaaDoor
