/-
  The least exponent that four bases have in common.
-/
import Derived.Test.YthbablmgpjjphaaDoorMrA
namespace Go.Proofs.YthbablmgpjjphaaDoor

def Ones (r k : Nat) : Prop := 2 ^ k % r = 1 ∧ 3 ^ k % r = 1 ∧ 5 ^ k % r = 1 ∧ 7 ^ k % r = 1
/-- Plain recursors: quick in the kernel. -/
noncomputable def bnd (x y : Bool) : Bool := @Bool.rec (fun _ => Bool) false y x
noncomputable def bor (x y : Bool) : Bool := @Bool.rec (fun _ => Bool) y true x
theorem bnd_iff {x y : Bool} : bnd x y = true ↔ x = true ∧ y = true := by cases x <;> cases y <;> simp [bnd]
theorem bor_iff {x y : Bool} : bor x y = true ↔ x = true ∨ y = true := by cases x <;> cases y <;> simp [bor]
/-- The argument is worked out first. -/
noncomputable def frc (x : Nat) (f : Nat → Bool) : Bool := @Nat.rec (fun _ => Bool) true (fun k _ => f k) (Nat.succ x)
theorem frc_eq (x : Nat) (f : Nat → Bool) : frc x f = f x := rfl
def fpR (b e n : Nat) : Nat := fpk 1024 1048576 b e n
theorem fpR_eq (b e n : Nat) : fpR b e n = b ^ e % n := fp_eq b e n
noncomputable def slow (n : Nat) : Bool := !(mrPassF n 2 && mrPassF n 3 && mrPassF n 5 && mrPassF n 7)
noncomputable def tstQ (n : Nat) : Bool := frc (Nat.sub n 1) fun e => @Bool.rec (fun _ => Bool) true (bor (Nat.blt 1073741824 n) (slow n)) (Nat.beq (fpR 2 e n) 1)
theorem tstQ_no {n : Nat} (h : Pass4 n) (ht : tstQ n = true) : False := by
  unfold tstQ at ht
  rw [frc_eq, fpR_eq] at ht
  have e : 2 ^ (Nat.sub n 1) % n = 1 := h.f2
  rw [e] at ht
  have ht : bor (Nat.blt 1073741824 n) (slow n) = true := ht
  have ht : slow n = true := by
    rcases bor_iff.1 ht with h1 | h1
    · rw [Nat.blt_eq] at h1; have := h.hi; omega
    · exact h1
  unfold slow at ht
  rw [mrPassF_eq, mrPassF_eq, mrPassF_eq, mrPassF_eq, h.p2, h.p3, h.p5, h.p7] at ht
  cases ht
noncomputable def ones (r k : Nat) : Bool := bnd (Nat.beq (fpR 2 k r) 1) (bnd (Nat.beq (fpR 3 k r) 1) (bnd (Nat.beq (fpR 5 k r) 1) (Nat.beq (fpR 7 k r) 1)))
theorem ones_iff (r k : Nat) : ones r k = true ↔ Ones r k := by
  unfold ones Ones
  simp only [bnd_iff, Nat.beq_eq, fpR_eq]
theorem Ones.mul {r k : Nat} (hr : 2 ≤ r) (h : Ones r k) (m : Nat) : Ones r (k * m) := by
  obtain ⟨h2, h3, h5, h7⟩ := h
  refine ⟨?_, ?_, ?_, ?_⟩ <;> (rw [Nat.pow_mul]; refine pow_one_mod hr ?_; assumption)
theorem pow_mod_one {r a k m : Nat} (h : a ^ m % r = 1) (h2 : a ^ k % r = 1) (hr : 2 ≤ r) : a ^ (k % m) % r = 1 := by
  have e : a ^ k = (a ^ m) ^ (k / m) * a ^ (k % m) := by rw [← Nat.pow_mul, ← Nat.pow_add, Nat.div_add_mod]
  rw [e, Nat.mul_mod, pow_one_mod hr h, Nat.one_mul, Nat.mod_mod] at h2
  exact h2
theorem Ones.mod {r k m : Nat} (hr : 2 ≤ r) (h : Ones r m) (h2 : Ones r k) : Ones r (k % m) :=
  ⟨pow_mod_one h.1 h2.1 hr, pow_mod_one h.2.1 h2.2.1 hr, pow_mod_one h.2.2.1 h2.2.2.1 hr, pow_mod_one h.2.2.2 h2.2.2.2 hr⟩
theorem Ones.gcd {r : Nat} (hr : 2 ≤ r) (m k : Nat) : Ones r m → Ones r k → Ones r (Nat.gcd m k) := by
  refine Nat.gcd.induction (P := fun m k => Ones r m → Ones r k → Ones r (Nat.gcd m k)) m k (fun n _ h => by rw [Nat.gcd_zero_left]; exact h) (fun m n hm ih h1 h2 => ?_)
  rw [Nat.gcd_rec]; exact ih (h1.mod hr h2) h1
noncomputable def ordE (r L e : Nat) : Bool := @Bool.rec (fun _ => Bool) true (bnd (Bool.not (ones r (Nat.div L e))) (Bool.not (bnd (Nat.blt e L) (ones r e)))) (Nat.beq (Nat.mod L e) 0)
theorem ordE_at {r L e : Nat} (h : ordE r L e = true) (hd : L % e = 0) : ¬ Ones r (L / e) ∧ ¬ (e < L ∧ Ones r e) := by
  have e1 : Nat.mod L e = 0 := hd
  unfold ordE at h
  rw [e1] at h
  have h := bnd_iff.1 (show bnd (Bool.not (ones r (Nat.div L e))) (Bool.not (bnd (Nat.blt e L) (ones r e))) = true from h)
  obtain ⟨h1, h2⟩ := h
  refine ⟨fun hh => ?_, fun ⟨h3, h4⟩ => ?_⟩
  · rw [show Nat.div L e = L / e from rfl, (ones_iff _ _).2 hh] at h1; cases h1
  · rw [bnd_iff.2 ⟨by rw [Nat.blt_eq]; exact h3, (ones_iff _ _).2 h4⟩] at h2; cases h2
noncomputable def ordAll (r L n : Nat) : Bool := @Nat.rec (fun _ => Bool) true (fun e ih => bnd (frc (Nat.add e 2) (ordE r L)) ih) n
theorem ordAll_at {r L : Nat} : ∀ n, ordAll r L n = true → ∀ e, 2 ≤ e → e < n + 2 → ordE r L e = true
  | 0, _, e, h1, h2 => absurd h1 (by omega)
  | n + 1, h, e, h1, h2 => by
    have ee : ordAll r L (n + 1) = bnd (ordE r L (n + 2)) (ordAll r L n) := rfl
    rw [ee, bnd_iff] at h
    by_cases he : e = n + 2
    · subst he; exact h.1
    · exact ordAll_at n h.2 e h1 (by omega)
/-- L is the least exponent. -/
noncomputable def ordOK (r L : Nat) : Bool := bnd (Nat.blt 0 L) (bnd (Nat.blt L 33000) (bnd (ones r L) (ordAll r L 180)))
theorem ordOK_dvd {r L k : Nat} (hr : 3 ≤ r) (h : ordOK r L = true) (hk : Ones r k) : L ∣ k := by
  unfold ordOK at h
  simp only [bnd_iff] at h
  obtain ⟨h0, hL, h1, hall⟩ := h
  have h0 : 0 < L := by simpa [Nat.blt_eq] using h0
  have hL : L < 33000 := by simpa [Nat.blt_eq] using hL
  have hd := Ones.gcd (by omega) L k ((ones_iff r L).1 h1) hk
  have hg := Nat.gcd_dvd_left L k
  generalize hgd : Nat.gcd L k = d at *
  have hdk : d ∣ k := by rw [← hgd]; exact Nat.gcd_dvd_right L k
  obtain ⟨m, hm⟩ := hg
  have chk := ordAll_at 180 hall
  by_cases hm1 : m = 1
  · rw [hm, hm1, Nat.mul_one]; exact hdk
  · exfalso
    have hm0 : ¬ m = 0 := fun e => by rw [e, Nat.mul_zero] at hm; omega
    have hd0 : 0 < d := by
      rcases Nat.eq_zero_or_pos d with e | e
      · rw [e, Nat.zero_mul] at hm; omega
      · exact e
    by_cases hbig : m ≤ 181
    · have hc := chk m (by omega) (by omega)
      have e1 : L % m = 0 := by rw [hm]; exact Nat.mul_mod_left d m
      have e2 : L / m = d := by rw [hm]; exact Nat.mul_div_cancel d (by omega)
      have h5 := (ordE_at hc e1).1
      rw [e2] at h5
      exact h5 hd
    · have hdl : d ≤ 181 := by
        rcases Nat.lt_or_ge 181 d with h | h
        · have := Nat.mul_le_mul h (show 182 ≤ m by omega); omega
        · exact h
      by_cases hd1 : d = 1
      · subst hd1
        have := hd.1
        rw [Nat.pow_one, Nat.mod_eq_of_lt (by omega)] at this; omega
      · have hc := chk d (by omega) (by omega)
        have e1 : L % d = 0 := by rw [hm]; exact Nat.mul_mod_right d m
        refine (ordE_at hc e1).2 ⟨?_, hd⟩
        rw [hm]
        have := Nat.mul_le_mul_left d (show 2 ≤ m by omega); omega
end Go.Proofs.YthbablmgpjjphaaDoor
