/-
  The least exponent that four bases have in common.
  All multiples of a prime, in the kernel.
  The kernel's checks of multiples of primes, part 1.
  The kernel's checks of multiples of primes, part 2.
  The kernel's checks of multiples of primes, part 3.
  The kernel's checks of multiples of primes, part 4.
  Products of small primes, and large primes times small ones, in the kernel.
  The kernel's checks of products of small primes.
  The kernel's check of large primes times small numbers.
  What passes the program's test is prime.
  The program's test of a prime and the document's agree on every number.
  Reshare: any plan to go to, Split of any share.
  Reshare: what Join says of anything; Join of the program.
  Reshare: what Move says of anything; Move of the program.
  Conditions: those that each theorem names.
-/
import Derived.Test.YtlhipgejiacklaaDoorM9
set_option linter.unusedVariables false
set_option linter.unusedSimpArgs false
namespace Go.Proofs.YtlhipgejiacklaaDoor

def Ones (r k : Nat) : Prop := 2 ^ k % r = 1 ∧ 3 ^ k % r = 1 ∧ 5 ^ k % r = 1 ∧ 7 ^ k % r = 1
/-- Plain recursors: quick in the kernel. -/
noncomputable def bnd (x y : Bool) : Bool := @Bool.rec (fun _ => Bool) false y x
noncomputable def bor (x y : Bool) : Bool := @Bool.rec (fun _ => Bool) y true x
theorem bnd_iff {x y : Bool} : bnd x y = true ↔ x = true ∧ y = true := by cases x <;> cases y <;> simp [bnd]
theorem bor_iff {x y : Bool} : bor x y = true ↔ x = true ∨ y = true := by cases x <;> cases y <;> simp [bor]
/-- The argument is worked out first. -/
noncomputable def frc (x : Nat) (f : Nat → Bool) : Bool := @Nat.rec (fun _ => Bool) true (fun k _ => f k) (Nat.succ x)
theorem frc_eq (x : Nat) (f : Nat → Bool) : frc x f = f x := rfl
def fpR (b e n : Nat) : Nat := fpk 1024 1048576 b e n
theorem fpR_eq (b e n : Nat) : fpR b e n = b ^ e % n := fp_eq b e n
noncomputable def slow (n : Nat) : Bool := !(mrPassF n 2 && mrPassF n 3 && mrPassF n 5 && mrPassF n 7)
noncomputable def tstQ (n : Nat) : Bool := frc (Nat.sub n 1) fun e => @Bool.rec (fun _ => Bool) true (bor (Nat.blt 1073741824 n) (slow n)) (Nat.beq (fpR 2 e n) 1)
theorem tstQ_no {n : Nat} (h : Pass4 n) (ht : tstQ n = true) : False := by
  unfold tstQ at ht
  rw [frc_eq, fpR_eq] at ht
  have e : 2 ^ (Nat.sub n 1) % n = 1 := h.f2
  rw [e] at ht
  have ht : bor (Nat.blt 1073741824 n) (slow n) = true := ht
  have ht : slow n = true := by
    rcases bor_iff.1 ht with h1 | h1
    · rw [Nat.blt_eq] at h1; have := h.hi; omega
    · exact h1
  unfold slow at ht
  rw [mrPassF_eq, mrPassF_eq, mrPassF_eq, mrPassF_eq, h.p2, h.p3, h.p5, h.p7] at ht
  cases ht
noncomputable def ones (r k : Nat) : Bool := bnd (Nat.beq (fpR 2 k r) 1) (bnd (Nat.beq (fpR 3 k r) 1) (bnd (Nat.beq (fpR 5 k r) 1) (Nat.beq (fpR 7 k r) 1)))
theorem ones_iff (r k : Nat) : ones r k = true ↔ Ones r k := by
  unfold ones Ones
  simp only [bnd_iff, Nat.beq_eq, fpR_eq]
theorem Ones.mul {r k : Nat} (hr : 2 ≤ r) (h : Ones r k) (m : Nat) : Ones r (k * m) := by
  obtain ⟨h2, h3, h5, h7⟩ := h
  refine ⟨?_, ?_, ?_, ?_⟩ <;> (rw [Nat.pow_mul]; refine pow_one_mod hr ?_; assumption)
theorem pow_mod_one {r a k m : Nat} (h : a ^ m % r = 1) (h2 : a ^ k % r = 1) (hr : 2 ≤ r) : a ^ (k % m) % r = 1 := by
  have e : a ^ k = (a ^ m) ^ (k / m) * a ^ (k % m) := by rw [← Nat.pow_mul, ← Nat.pow_add, Nat.div_add_mod]
  rw [e, Nat.mul_mod, pow_one_mod hr h, Nat.one_mul, Nat.mod_mod] at h2
  exact h2
theorem Ones.mod {r k m : Nat} (hr : 2 ≤ r) (h : Ones r m) (h2 : Ones r k) : Ones r (k % m) :=
  ⟨pow_mod_one h.1 h2.1 hr, pow_mod_one h.2.1 h2.2.1 hr, pow_mod_one h.2.2.1 h2.2.2.1 hr, pow_mod_one h.2.2.2 h2.2.2.2 hr⟩
theorem Ones.gcd {r : Nat} (hr : 2 ≤ r) (m k : Nat) : Ones r m → Ones r k → Ones r (Nat.gcd m k) := by
  refine Nat.gcd.induction (P := fun m k => Ones r m → Ones r k → Ones r (Nat.gcd m k)) m k (fun n _ h => by rw [Nat.gcd_zero_left]; exact h) (fun m n hm ih h1 h2 => ?_)
  rw [Nat.gcd_rec]; exact ih (h1.mod hr h2) h1
noncomputable def ordE (r L e : Nat) : Bool := @Bool.rec (fun _ => Bool) true (bnd (Bool.not (ones r (Nat.div L e))) (Bool.not (bnd (Nat.blt e L) (ones r e)))) (Nat.beq (Nat.mod L e) 0)
theorem ordE_at {r L e : Nat} (h : ordE r L e = true) (hd : L % e = 0) : ¬ Ones r (L / e) ∧ ¬ (e < L ∧ Ones r e) := by
  have e1 : Nat.mod L e = 0 := hd
  unfold ordE at h
  rw [e1] at h
  have h := bnd_iff.1 (show bnd (Bool.not (ones r (Nat.div L e))) (Bool.not (bnd (Nat.blt e L) (ones r e))) = true from h)
  obtain ⟨h1, h2⟩ := h
  refine ⟨fun hh => ?_, fun ⟨h3, h4⟩ => ?_⟩
  · rw [show Nat.div L e = L / e from rfl, (ones_iff _ _).2 hh] at h1; cases h1
  · rw [bnd_iff.2 ⟨by rw [Nat.blt_eq]; exact h3, (ones_iff _ _).2 h4⟩] at h2; cases h2
noncomputable def ordAll (r L n : Nat) : Bool := @Nat.rec (fun _ => Bool) true (fun e ih => bnd (frc (Nat.add e 2) (ordE r L)) ih) n
theorem ordAll_at {r L : Nat} : ∀ n, ordAll r L n = true → ∀ e, 2 ≤ e → e < n + 2 → ordE r L e = true
  | 0, _, e, h1, h2 => absurd h1 (by omega)
  | n + 1, h, e, h1, h2 => by
    have ee : ordAll r L (n + 1) = bnd (ordE r L (n + 2)) (ordAll r L n) := rfl
    rw [ee, bnd_iff] at h
    by_cases he : e = n + 2
    · subst he; exact h.1
    · exact ordAll_at n h.2 e h1 (by omega)
/-- L is the least exponent. -/
noncomputable def ordOK (r L : Nat) : Bool := bnd (Nat.blt 0 L) (bnd (Nat.blt L 33000) (bnd (ones r L) (ordAll r L 180)))
theorem ordOK_dvd {r L k : Nat} (hr : 3 ≤ r) (h : ordOK r L = true) (hk : Ones r k) : L ∣ k := by
  unfold ordOK at h
  simp only [bnd_iff] at h
  obtain ⟨h0, hL, h1, hall⟩ := h
  have h0 : 0 < L := by simpa [Nat.blt_eq] using h0
  have hL : L < 33000 := by simpa [Nat.blt_eq] using hL
  have hd := Ones.gcd (by omega) L k ((ones_iff r L).1 h1) hk
  have hg := Nat.gcd_dvd_left L k
  generalize hgd : Nat.gcd L k = d at *
  have hdk : d ∣ k := by rw [← hgd]; exact Nat.gcd_dvd_right L k
  obtain ⟨m, hm⟩ := hg
  have chk := ordAll_at 180 hall
  by_cases hm1 : m = 1
  · rw [hm, hm1, Nat.mul_one]; exact hdk
  · exfalso
    have hm0 : ¬ m = 0 := fun e => by rw [e, Nat.mul_zero] at hm; omega
    have hd0 : 0 < d := by
      rcases Nat.eq_zero_or_pos d with e | e
      · rw [e, Nat.zero_mul] at hm; omega
      · exact e
    by_cases hbig : m ≤ 181
    · have hc := chk m (by omega) (by omega)
      have e1 : L % m = 0 := by rw [hm]; exact Nat.mul_mod_left d m
      have e2 : L / m = d := by rw [hm]; exact Nat.mul_div_cancel d (by omega)
      have h5 := (ordE_at hc e1).1
      rw [e2] at h5
      exact h5 hd
    · have hdl : d ≤ 181 := by
        rcases Nat.lt_or_ge 181 d with h | h
        · have := Nat.mul_le_mul h (show 182 ≤ m by omega); omega
        · exact h
      by_cases hd1 : d = 1
      · subst hd1
        have := hd.1
        rw [Nat.pow_one, Nat.mod_eq_of_lt (by omega)] at this; omega
      · have hc := chk d (by omega) (by omega)
        have e1 : L % d = 0 := by rw [hm]; exact Nat.mul_mod_right d m
        refine (ordE_at hc e1).2 ⟨?_, hd⟩
        rw [hm]
        have := Nat.mul_le_mul_left d (show 2 ≤ m by omega); omega
end Go.Proofs.YtlhipgejiacklaaDoor
namespace Go.Proofs.YtlhipgejiacklaaDoor

/-- The number r * s does not pass. -/
noncomputable def cand (r s : Nat) : Bool := frc s fun s => @Bool.rec (fun _ => Bool) true (frc (Nat.mul r s) tstQ) (Nat.beq (Nat.gcd s 105) 1)
theorem cand_no {r s : Nat} (h : cand r s = true) (hp : Pass4 (r * s)) : False := by
  unfold cand at h
  rw [frc_eq, frc_eq] at h
  have h1 : Nat.Coprime 105 (r * s) := ((hp.c3.mul_right hp.c5).mul_right hp.c7).symm
  have h2 : Nat.gcd s 105 = 1 := (h1.symm.coprime_dvd_left (Nat.dvd_mul_left s r))
  rw [h2] at h
  exact tstQ_no hp h
/-- The numbers r * (1 + t * L), b < t <= b + n, do not pass. -/
noncomputable def blk (r L b n : Nat) : Bool := @Nat.rec (fun _ => Bool) true (fun t ih => bnd (cand r (Nat.succ (Nat.mul (Nat.add b (Nat.succ t)) L))) ih) n
theorem blk_at {r L b : Nat} : ∀ n, blk r L b n = true → ∀ t, b < t → t ≤ b + n → cand r (t * L + 1) = true
  | 0, _, t, h1, h2 => absurd h1 (by omega)
  | n + 1, h, t, h1, h2 => by
    have e : blk r L b (n + 1) = bnd (cand r ((b + (n + 1)) * L + 1)) (blk r L b n) := rfl
    rw [e, bnd_iff] at h
    by_cases ht : t = b + (n + 1)
    · subst ht; exact h.1
    · exact blk_at n h.2 t h1 (by omega)
noncomputable def blks (r L n : Nat) : Bool := @Nat.rec (fun _ => Bool) true (fun b ih => bnd (frc (Nat.mul 100 b) fun b => blk r L b 100) ih) n
theorem blks_at {r L : Nat} : ∀ n, blks r L n = true → ∀ t, 0 < t → t ≤ 100 * n → cand r (t * L + 1) = true
  | 0, _, t, h1, h2 => absurd h1 (by omega)
  | n + 1, h, t, h1, h2 => by
    have e : blks r L (n + 1) = bnd (blk r L (100 * n) 100) (blks r L n) := rfl
    rw [e, bnd_iff] at h
    by_cases ht : 100 * n < t
    · exact blk_at 100 h.1 t ht (by omega)
    · exact blks_at n h.2 t h1 (by omega)
/-! ### One prime -/
def smallP : List Nat := [2, 3, 5, 7, 11, 13, 17, 19, 23, 29, 31, 37, 41, 43, 47, 53, 59, 61, 67, 71, 73, 79, 83, 89, 97, 101, 103, 107, 109, 113, 127, 131, 137, 139, 149, 151, 157, 163, 167, 173, 179, 181]
def P181 : Nat := 5397346292805549782720214077673687806275517530364350655459511599582614290
theorem P181_eq : prodL smallP = P181 := by decide +kernel
noncomputable def chkL (r L : Nat) : Bool := frc L fun L => bnd (ordOK r L) (blks r L (Nat.succ (Nat.div (Nat.div (Nat.div 1073741824 r) L) 100)))
noncomputable def chkP (r : Nat) : Bool := bor (chkL r (Nat.div (Nat.sub r 1) 4)) (bor (chkL r (Nat.div (Nat.sub r 1) 3)) (bor (chkL r (Nat.div (Nat.sub r 1) 2)) (chkL r (Nat.sub r 1))))
noncomputable def chk (r : Nat) : Bool := @Bool.rec (fun _ => Bool) true (chkP r) (Nat.beq (Nat.gcd r P181) 1)
theorem chkL_no {r L s : Nat} (hr : PrimeN r) (h181 : 181 < r) (h : chkL r L = true) (hs : 2 ≤ s) (hp : Pass4 (r * s)) : False := by
  unfold chkL at h
  rw [frc_eq, bnd_iff] at h
  obtain ⟨ho, hb⟩ := h
  have hcop : ∀ a, 2 ≤ a → a < r → a ^ (r - 1) % r = 1 := fun a h1 h2 => flt hr (fun e => by have := Nat.le_of_dvd (by omega) e; omega)
  have h1 := ordOK_dvd (by omega) ho (k := r - 1) ⟨hcop 2 (by omega) (by omega), hcop 3 (by omega) (by omega), hcop 5 (by omega) (by omega), hcop 7 (by omega) (by omega)⟩
  have hdn : ∀ a, a ^ (r * s - 1) % (r * s) = 1 → a ^ (r * s - 1) % r = 1 := fun a h => by
    rw [← Nat.mod_mul_right_mod _ r s, h]; exact Nat.mod_eq_of_lt (by omega)
  have h2 := ordOK_dvd (by omega) ho (k := r * s - 1) ⟨hdn 2 hp.f2, hdn 3 hp.f3, hdn 5 hp.f5, hdn 7 hp.f7⟩
  have hrs : r * s - 1 = (r - 1) * s + (s - 1) := by
    rw [Nat.sub_mul]; have := Nat.mul_le_mul_right s (show 1 ≤ r by omega); omega
  rw [hrs] at h2
  have h3 : L ∣ s - 1 := (Nat.dvd_add_right (Nat.dvd_trans h1 (Nat.dvd_mul_right _ _))).1 h2
  obtain ⟨t, ht⟩ := h3
  have hL : 0 < L := by
    rcases Nat.eq_zero_or_pos L with e | e
    · subst e; omega
    · exact e
  have ht0 : 0 < t := by
    rcases Nat.eq_zero_or_pos t with e | e
    · subst e; omega
    · exact e
  have hhi := hp.hi
  have ht1 : t ≤ 1073741824 / r / L := by
    rw [Nat.le_div_iff_mul_le hL, Nat.le_div_iff_mul_le (by omega)]
    have : t * L * r ≤ r * s := by
      rw [Nat.mul_comm t L, ← ht, Nat.mul_comm]; exact Nat.mul_le_mul_left r (by omega)
    omega
  have hT := blks_at _ hb t ht0 (show t ≤ 100 * Nat.succ (1073741824 / r / L / 100) by omega)
  rw [show t * L + 1 = s by rw [Nat.mul_comm, ← ht]; omega] at hT
  exact cand_no hT hp
theorem chk_no {r s : Nat} (hr : PrimeN r) (h181 : 181 < r) (h : chk r = true) (hs : 2 ≤ s) (hp : Pass4 (r * s)) : False := by
  have hnd : ¬ r ∣ P181 := by
    rw [← P181_eq]
    refine prime_prodL hr smallP (fun x hx hd => ?_)
    have h1 : ∀ x ∈ smallP, 0 < x ∧ x ≤ 181 := by decide +kernel
    obtain ⟨h2, h3⟩ := h1 x hx
    have := Nat.le_of_dvd h2 hd; omega
  have hg : Nat.gcd r P181 = 1 := hr.coprime hnd
  unfold chk at h
  rw [hg] at h
  have h : chkP r = true := h
  unfold chkP at h
  simp only [bor_iff] at h
  rcases h with h | h | h | h <;> exact chkL_no hr h181 h hs hp
/-- All odd r with lo < r <= lo + 2 n (lo even). -/
noncomputable def chks (lo n : Nat) : Bool := @Nat.rec (fun _ => Bool) true (fun i ih => bnd (frc (Nat.succ (Nat.add lo (Nat.mul 2 i))) chk) ih) n
theorem chks_at {lo : Nat} : ∀ n, chks lo n = true → ∀ i, i < n → chk (lo + 2 * i + 1) = true
  | 0, _, i, h => absurd h (by omega)
  | n + 1, h, i, h1 => by
    have e : chks lo (n + 1) = bnd (chk (lo + 2 * n + 1)) (chks lo n) := rfl
    rw [e, bnd_iff] at h
    by_cases hi : i = n
    · subst hi; exact h.1
    · exact chks_at n h.2 i (by omega)
end Go.Proofs.YtlhipgejiacklaaDoor
namespace Go.Proofs.YtlhipgejiacklaaDoor
theorem chks_276 : chks 276 15 = true := by kernel_rfl
theorem chks_366 : chks 366 26 = true := by kernel_rfl
theorem chks_576 : chks 576 66 = true := by kernel_rfl
theorem chks_1302 : chks 1302 393 = true := by kernel_rfl
theorem chks_3688 : chks 3688 400 = true := by kernel_rfl
theorem chks_6088 : chks 6088 400 = true := by kernel_rfl
theorem chks_6888 : chks 6888 400 = true := by kernel_rfl
theorem chks_10888 : chks 10888 400 = true := by kernel_rfl
theorem chks_13288 : chks 13288 400 = true := by kernel_rfl
theorem chks_14888 : chks 14888 400 = true := by kernel_rfl
theorem chks_18088 : chks 18088 400 = true := by kernel_rfl
theorem chks_24488 : chks 24488 400 = true := by kernel_rfl
theorem chks_26088 : chks 26088 400 = true := by kernel_rfl
theorem chks_27688 : chks 27688 400 = true := by kernel_rfl
end Go.Proofs.YtlhipgejiacklaaDoor
namespace Go.Proofs.YtlhipgejiacklaaDoor
theorem chks_190 : chks 190 3 = true := by kernel_rfl
theorem chks_210 : chks 210 8 = true := by kernel_rfl
theorem chks_418 : chks 418 30 = true := by kernel_rfl
theorem chks_936 : chks 936 183 = true := by kernel_rfl
theorem chks_2088 : chks 2088 400 = true := by kernel_rfl
theorem chks_8488 : chks 8488 400 = true := by kernel_rfl
theorem chks_9288 : chks 9288 400 = true := by kernel_rfl
theorem chks_10088 : chks 10088 400 = true := by kernel_rfl
theorem chks_20488 : chks 20488 400 = true := by kernel_rfl
theorem chks_21288 : chks 21288 400 = true := by kernel_rfl
theorem chks_22088 : chks 22088 400 = true := by kernel_rfl
theorem chks_22888 : chks 22888 400 = true := by kernel_rfl
theorem chks_31688 : chks 31688 400 = true := by kernel_rfl
theorem chks_32488 : chks 32488 140 = true := by kernel_rfl
end Go.Proofs.YtlhipgejiacklaaDoor
namespace Go.Proofs.YtlhipgejiacklaaDoor
theorem chks_180 : chks 180 5 = true := by kernel_rfl
theorem chks_196 : chks 196 7 = true := by kernel_rfl
theorem chks_226 : chks 226 6 = true := by kernel_rfl
theorem chks_330 : chks 330 18 = true := by kernel_rfl
theorem chks_478 : chks 478 49 = true := by kernel_rfl
theorem chks_5288 : chks 5288 400 = true := by kernel_rfl
theorem chks_7688 : chks 7688 400 = true := by kernel_rfl
theorem chks_12488 : chks 12488 400 = true := by kernel_rfl
theorem chks_16488 : chks 16488 400 = true := by kernel_rfl
theorem chks_18888 : chks 18888 400 = true := by kernel_rfl
theorem chks_19688 : chks 19688 400 = true := by kernel_rfl
theorem chks_23688 : chks 23688 400 = true := by kernel_rfl
theorem chks_29288 : chks 29288 400 = true := by kernel_rfl
theorem chks_30088 : chks 30088 400 = true := by kernel_rfl
end Go.Proofs.YtlhipgejiacklaaDoor
namespace Go.Proofs.YtlhipgejiacklaaDoor
theorem chks_238 : chks 238 9 = true := by kernel_rfl
theorem chks_256 : chks 256 10 = true := by kernel_rfl
theorem chks_306 : chks 306 12 = true := by kernel_rfl
theorem chks_708 : chks 708 114 = true := by kernel_rfl
theorem chks_2888 : chks 2888 400 = true := by kernel_rfl
theorem chks_4488 : chks 4488 400 = true := by kernel_rfl
theorem chks_11688 : chks 11688 400 = true := by kernel_rfl
theorem chks_14088 : chks 14088 400 = true := by kernel_rfl
theorem chks_15688 : chks 15688 400 = true := by kernel_rfl
theorem chks_17288 : chks 17288 400 = true := by kernel_rfl
theorem chks_25288 : chks 25288 400 = true := by kernel_rfl
theorem chks_26888 : chks 26888 400 = true := by kernel_rfl
theorem chks_28488 : chks 28488 400 = true := by kernel_rfl
theorem chks_30888 : chks 30888 400 = true := by kernel_rfl
end Go.Proofs.YtlhipgejiacklaaDoor
namespace Go.Proofs.YtlhipgejiacklaaDoor

theorem ex_prime : ∀ m : Nat, 2 ≤ m → ∃ p, PrimeN p ∧ p ∣ m := by
  intro m
  induction m using Nat.strongRecOn with
  | ind m ih =>
    intro hm
    by_cases hp : PrimeN m
    · exact ⟨m, hp, Nat.dvd_refl m⟩
    · have : ∃ d, d ∣ m ∧ d ≠ 1 ∧ d ≠ m := by
        refine Classical.byContradiction fun hn => hp ⟨hm, fun d hd => ?_⟩
        by_cases h1 : d = 1
        · exact .inl h1
        · by_cases h2 : d = m
          · exact .inr h2
          · exact absurd ⟨d, hd, h1, h2⟩ hn
      obtain ⟨d, hd, h1, h2⟩ := this
      have hle := Nat.le_of_dvd (by omega) hd
      have hd0 : d ≠ 0 := fun e => by subst e; have := Nat.eq_zero_of_zero_dvd hd; omega
      obtain ⟨p, hp, hpd⟩ := ih d (by omega) (by omega)
      exact ⟨p, hp, Nat.dvd_trans hpd hd⟩
/-- T holds of all products n * m up to N, m of primes in l. -/
noncomputable def dfs (T : Nat → Bool) (N : Nat) (k : Nat) : Nat → List Nat → Bool :=
  @Nat.rec (fun _ => Nat → List Nat → Bool) (fun _ _ => false)
    (fun _ F n l => @List.rec Nat (fun _ => Bool) true (fun q rest ih => frc (Nat.mul n q) fun m => @Bool.rec (fun _ => Bool) (bnd (T m) (bnd (F m (List.cons q rest)) ih)) true (Nat.blt N m)) l) k
theorem dfs_cons (T : Nat → Bool) (N k n q : Nat) (rest : List Nat) : dfs T N (k + 1) n (q :: rest) = @Bool.rec (fun _ => Bool) (bnd (T (n * q)) (bnd (dfs T N k (n * q) (q :: rest)) (dfs T N (k + 1) n rest))) true (Nat.blt N (n * q)) := rfl
theorem dfs_at {T : Nat → Bool} {N : Nat} : ∀ k n l, dfs T N k n l = true → 0 < n → l.Pairwise (· ≤ ·) → ∀ m, 2 ≤ m → (∀ q, PrimeN q → q ∣ m → q ∈ l) → n * m ≤ N → T (n * m) = true
  | 0, n, l, h => by cases (show false = true from h)
  | k + 1, n, [], h => by
    intro hn hs m hm hq
    obtain ⟨p, hp, hd⟩ := ex_prime m hm
    cases hq p hp hd
  | k + 1, n, q :: rest, h => by
    intro hn hs m hm hq hN
    rw [dfs_cons] at h
    rw [List.pairwise_cons] at hs
    have hqm : q ≤ m := by
      obtain ⟨p, hp, hd⟩ := ex_prime m hm
      have h1 := Nat.le_of_dvd (by omega) hd
      rcases List.mem_cons.1 (hq p hp hd) with e | e
      · omega
      · have := hs.1 p e; omega
    have hb : Nat.blt N (n * q) = false := by
      have := Nat.mul_le_mul_left n hqm
      cases hbb : Nat.blt N (n * q) with
      | false => rfl
      | true => rw [Nat.blt_eq] at hbb; omega
    rw [hb] at h
    have h : bnd (T (n * q)) (bnd (dfs T N k (n * q) (q :: rest)) (dfs T N (k + 1) n rest)) = true := h
    rw [bnd_iff, bnd_iff] at h
    obtain ⟨h1, h2, h3⟩ := h
    by_cases hd : q ∣ m
    · obtain ⟨m', rfl⟩ := hd
      have hq0 : 0 < q := by
        rcases Nat.eq_zero_or_pos q with e | e
        · subst e; omega
        · exact e
      rw [← Nat.mul_assoc]
      by_cases hm1 : m' = 1
      · rw [hm1, Nat.mul_one]; exact h1
      · refine dfs_at k (n * q) (q :: rest) h2 (Nat.mul_pos hn hq0) (List.pairwise_cons.2 hs) m' ?_ (fun p hp hd => hq p hp (Nat.dvd_trans hd (Nat.dvd_mul_left m' q))) (by rw [Nat.mul_assoc]; exact hN)
        rcases Nat.eq_zero_or_pos m' with e | e
        · subst e; omega
        · omega
    · refine dfs_at (k + 1) n rest h3 hn hs.2 m hm (fun p hp hpd => ?_) hN
      rcases List.mem_cons.1 (hq p hp hpd) with e | e
      · subst e; exact absurd hpd hd
      · exact e
/-- The same from each prime of the list on. -/
def AllS (T : Nat → Bool) (N k : Nat) : List Nat → Prop
  | [] => True
  | q :: rest => dfs T N k q (q :: rest) = true ∧ AllS T N k rest
theorem AllS.at {T : Nat → Bool} {N k : Nat} : ∀ {l : List Nat}, AllS T N k l → l.Pairwise (· ≤ ·) → ∀ m, 2 ≤ m → (∀ q, PrimeN q → q ∣ m → q ∈ l) → m ≤ N → m ∈ l ∨ T m = true
  | [], _, _, m, hm, hq, _ => by
    obtain ⟨p, hp, hd⟩ := ex_prime m hm
    cases hq p hp hd
  | q :: rest, h, hs, m, hm, hq, hN => by
    by_cases hd : q ∣ m
    · obtain ⟨m', rfl⟩ := hd
      by_cases hm1 : m' = 1
      · left; rw [hm1, Nat.mul_one]; simp
      · right
        have hq0 : 0 < q := by
          rcases Nat.eq_zero_or_pos q with e | e
          · subst e; omega
          · exact e
        refine dfs_at k q (q :: rest) h.1 hq0 hs m' ?_ (fun p hp hd => hq p hp (Nat.dvd_trans hd (Nat.dvd_mul_left m' q))) hN
        rcases Nat.eq_zero_or_pos m' with e | e
        · subst e; omega
        · omega
    · rcases AllS.at h.2 (List.pairwise_cons.1 hs).2 m hm (fun p hp hpd => by
        rcases List.mem_cons.1 (hq p hp hpd) with e | e
        · subst e; exact absurd hpd hd
        · exact e) hN with h1 | h1
      · left; simp [h1]
      · exact .inr h1
/-! ### A large prime times a small number -/
noncomputable def podd (lo n : Nat) : Nat := @Nat.rec (fun _ => Nat) 1 (fun i ih => Nat.mul (Nat.succ (Nat.add lo (Nat.mul 2 i))) ih) n
noncomputable def podds (n : Nat) : Nat := @Nat.rec (fun _ => Nat) 1 (fun b ih => Nat.mul (podd (Nat.mul 1024 b) 512) ih) n
noncomputable def PP : Nat := podds 32
theorem podd_no {r lo : Nat} (hr : PrimeN r) : ∀ n, lo + 2 * n ≤ r → ¬ r ∣ podd lo n
  | 0, _, h => by
    have h : r ∣ 1 := h
    have := Nat.le_of_dvd (by omega) h; have := hr.1; omega
  | n + 1, hl, h => by
    have h : r ∣ (lo + 2 * n + 1) * podd lo n := h
    rcases hr.euclid h with h | h
    · have := Nat.le_of_dvd (by omega) h; omega
    · exact podd_no hr n (by omega) h
theorem podds_no {r : Nat} (hr : PrimeN r) : ∀ n, 1024 * n ≤ r → ¬ r ∣ podds n
  | 0, _, h => by
    have h : r ∣ 1 := h
    have := Nat.le_of_dvd (by omega) h; have := hr.1; omega
  | n + 1, hl, h => by
    have h : r ∣ podd (1024 * n) 512 * podds n := h
    rcases hr.euclid h with h | h
    · exact podd_no hr 512 (by omega) h
    · exact podds_no hr n (by omega) h
noncomputable def gA (e : Nat) : Nat := Nat.gcd (Nat.gcd (Nat.sub (Nat.pow 2 e) 1) (Nat.sub (Nat.pow 3 e) 1)) (Nat.gcd (Nat.sub (Nat.pow 5 e) 1) (Nat.sub (Nat.pow 7 e) 1))
noncomputable def strp (P g : Nat) : Nat := Nat.div g (Nat.gcd g P)
noncomputable def endA (s h : Nat) : Bool := bor (Nat.beq h 1) (bnd (Nat.blt 0 h) (bnd (Nat.blt h 65536) (tstQ (Nat.mul h s))))
noncomputable def chkA (P s : Nat) : Bool := frc (Nat.sub s 1) fun e => frc (gA e) fun g => frc (strp P g) fun g => frc (strp P g) fun g => frc (strp P g) fun g => endA s g
theorem strp_dvd {r P g : Nat} (hr : PrimeN r) (hP : ¬ r ∣ P) (h : r ∣ g) : r ∣ strp P g := by
  have e : g = Nat.gcd g P * strp P g := (Nat.mul_div_cancel' (Nat.gcd_dvd_left g P)).symm
  rcases hr.euclid (e ▸ h) with h1 | h1
  · exact absurd (Nat.dvd_trans h1 (Nat.gcd_dvd_right g P)) hP
  · exact h1
theorem pred_dvd {a r s : Nat} (hr : PrimeN r) (ha : 2 ≤ a) (har : a < r) (hs : 2 ≤ s) (hsr : s < r) (h : a ^ (r * s - 1) % (r * s) = 1) : r ∣ Nat.sub (Nat.pow a (s - 1)) 1 := by
  have h1 : a ^ (r * s - 1) % r = 1 := by
    rw [← Nat.mod_mul_right_mod _ r s, h]; exact Nat.mod_eq_of_lt (by omega)
  have h2 := pow_mod_one (flt hr (fun e => by have := Nat.le_of_dvd (by omega) e; omega)) h1 (by omega)
  have e : (r * s - 1) % (r - 1) = s - 1 := by
    have e : r * s - 1 = (s - 1) + (r - 1) * s := by
      rw [Nat.sub_mul]; have := Nat.mul_le_mul_right s (show 1 ≤ r by omega); omega
    rw [e, Nat.add_mul_mod_self_left, Nat.mod_eq_of_lt (by omega)]
  rw [e] at h2
  refine Nat.dvd_of_mod_eq_zero ?_
  exact Nat.sub_mod_eq_zero_of_mod_eq (by rw [show Nat.pow a (s - 1) = a ^ (s - 1) from rfl, h2, Nat.mod_eq_of_lt (by omega)])
theorem chkA_no {r s : Nat} (hr : PrimeN r) (hbig : 32768 ≤ r) (hs : 2 ≤ s) (hsr : s < r) (h : chkA PP s = true) (hp : Pass4 (r * s)) : False := by
  have hP : ¬ r ∣ PP := podds_no hr 32 (by omega)
  unfold chkA at h
  rw [frc_eq, frc_eq, frc_eq, frc_eq, frc_eq] at h
  have hg : r ∣ gA (Nat.sub s 1) := by
    unfold gA
    exact Nat.dvd_gcd (Nat.dvd_gcd (pred_dvd hr (by omega) (by omega) hs hsr hp.f2) (pred_dvd hr (by omega) (by omega) hs hsr hp.f3)) (Nat.dvd_gcd (pred_dvd hr (by omega) (by omega) hs hsr hp.f5) (pred_dvd hr (by omega) (by omega) hs hsr hp.f7))
  have hd := strp_dvd hr hP (strp_dvd hr hP (strp_dvd hr hP hg))
  generalize strp PP (strp PP (strp PP (gA (Nat.sub s 1)))) = g at *
  unfold endA at h
  rw [bor_iff, bnd_iff, bnd_iff] at h
  rcases h with h | ⟨h0, h1, h2⟩
  · have h : g = 1 := Nat.eq_of_beq_eq_true h
    subst h
    have := Nat.le_of_dvd (by omega) hd; omega
  · rw [Nat.blt_eq] at h0 h1
    obtain ⟨c, rfl⟩ := hd
    have hc : c = 1 := by
      rcases Nat.lt_or_ge c 2 with h | h
      · rcases Nat.eq_zero_or_pos c with e | e
        · subst e; omega
        · omega
      · have := Nat.mul_le_mul_left r h; omega
    subst hc
    rw [Nat.mul_one] at h2
    exact tstQ_no hp h2
end Go.Proofs.YtlhipgejiacklaaDoor
namespace Go.Proofs.YtlhipgejiacklaaDoor
theorem dfs_11 : dfs tstQ 1073741824 8 11 [11, 13, 17, 19, 23, 29, 31, 37, 41, 43, 47, 53, 59, 61, 67, 71, 73, 79, 83, 89, 97, 101, 103, 107, 109, 113, 127, 131, 137, 139, 149, 151, 157, 163, 167, 173, 179, 181] = true := by kernel_rfl
theorem dfs_13 : dfs tstQ 1073741824 8 13 [13, 17, 19, 23, 29, 31, 37, 41, 43, 47, 53, 59, 61, 67, 71, 73, 79, 83, 89, 97, 101, 103, 107, 109, 113, 127, 131, 137, 139, 149, 151, 157, 163, 167, 173, 179, 181] = true := by kernel_rfl
theorem dfs_17 : dfs tstQ 1073741824 8 17 [17, 19, 23, 29, 31, 37, 41, 43, 47, 53, 59, 61, 67, 71, 73, 79, 83, 89, 97, 101, 103, 107, 109, 113, 127, 131, 137, 139, 149, 151, 157, 163, 167, 173, 179, 181] = true := by kernel_rfl
theorem dfs_19 : dfs tstQ 1073741824 8 19 [19, 23, 29, 31, 37, 41, 43, 47, 53, 59, 61, 67, 71, 73, 79, 83, 89, 97, 101, 103, 107, 109, 113, 127, 131, 137, 139, 149, 151, 157, 163, 167, 173, 179, 181] = true := by kernel_rfl
theorem dfs_23 : dfs tstQ 1073741824 8 23 [23, 29, 31, 37, 41, 43, 47, 53, 59, 61, 67, 71, 73, 79, 83, 89, 97, 101, 103, 107, 109, 113, 127, 131, 137, 139, 149, 151, 157, 163, 167, 173, 179, 181] = true := by kernel_rfl
theorem dfs_29 : dfs tstQ 1073741824 8 29 [29, 31, 37, 41, 43, 47, 53, 59, 61, 67, 71, 73, 79, 83, 89, 97, 101, 103, 107, 109, 113, 127, 131, 137, 139, 149, 151, 157, 163, 167, 173, 179, 181] = true := by kernel_rfl
theorem dfs_31 : dfs tstQ 1073741824 8 31 [31, 37, 41, 43, 47, 53, 59, 61, 67, 71, 73, 79, 83, 89, 97, 101, 103, 107, 109, 113, 127, 131, 137, 139, 149, 151, 157, 163, 167, 173, 179, 181] = true := by kernel_rfl
theorem dfs_37 : dfs tstQ 1073741824 8 37 [37, 41, 43, 47, 53, 59, 61, 67, 71, 73, 79, 83, 89, 97, 101, 103, 107, 109, 113, 127, 131, 137, 139, 149, 151, 157, 163, 167, 173, 179, 181] = true := by kernel_rfl
theorem dfs_41 : dfs tstQ 1073741824 8 41 [41, 43, 47, 53, 59, 61, 67, 71, 73, 79, 83, 89, 97, 101, 103, 107, 109, 113, 127, 131, 137, 139, 149, 151, 157, 163, 167, 173, 179, 181] = true := by kernel_rfl
theorem dfs_43 : dfs tstQ 1073741824 8 43 [43, 47, 53, 59, 61, 67, 71, 73, 79, 83, 89, 97, 101, 103, 107, 109, 113, 127, 131, 137, 139, 149, 151, 157, 163, 167, 173, 179, 181] = true := by kernel_rfl
theorem dfs_47 : dfs tstQ 1073741824 8 47 [47, 53, 59, 61, 67, 71, 73, 79, 83, 89, 97, 101, 103, 107, 109, 113, 127, 131, 137, 139, 149, 151, 157, 163, 167, 173, 179, 181] = true := by kernel_rfl
theorem dfs_53 : dfs tstQ 1073741824 8 53 [53, 59, 61, 67, 71, 73, 79, 83, 89, 97, 101, 103, 107, 109, 113, 127, 131, 137, 139, 149, 151, 157, 163, 167, 173, 179, 181] = true := by kernel_rfl
theorem dfs_59 : dfs tstQ 1073741824 8 59 [59, 61, 67, 71, 73, 79, 83, 89, 97, 101, 103, 107, 109, 113, 127, 131, 137, 139, 149, 151, 157, 163, 167, 173, 179, 181] = true := by kernel_rfl
theorem dfs_61 : dfs tstQ 1073741824 8 61 [61, 67, 71, 73, 79, 83, 89, 97, 101, 103, 107, 109, 113, 127, 131, 137, 139, 149, 151, 157, 163, 167, 173, 179, 181] = true := by kernel_rfl
theorem dfs_67 : dfs tstQ 1073741824 8 67 [67, 71, 73, 79, 83, 89, 97, 101, 103, 107, 109, 113, 127, 131, 137, 139, 149, 151, 157, 163, 167, 173, 179, 181] = true := by kernel_rfl
theorem dfs_71 : dfs tstQ 1073741824 8 71 [71, 73, 79, 83, 89, 97, 101, 103, 107, 109, 113, 127, 131, 137, 139, 149, 151, 157, 163, 167, 173, 179, 181] = true := by kernel_rfl
theorem dfs_73 : dfs tstQ 1073741824 8 73 [73, 79, 83, 89, 97, 101, 103, 107, 109, 113, 127, 131, 137, 139, 149, 151, 157, 163, 167, 173, 179, 181] = true := by kernel_rfl
theorem dfs_79 : dfs tstQ 1073741824 8 79 [79, 83, 89, 97, 101, 103, 107, 109, 113, 127, 131, 137, 139, 149, 151, 157, 163, 167, 173, 179, 181] = true := by kernel_rfl
theorem dfs_83 : dfs tstQ 1073741824 8 83 [83, 89, 97, 101, 103, 107, 109, 113, 127, 131, 137, 139, 149, 151, 157, 163, 167, 173, 179, 181] = true := by kernel_rfl
theorem dfs_89 : dfs tstQ 1073741824 8 89 [89, 97, 101, 103, 107, 109, 113, 127, 131, 137, 139, 149, 151, 157, 163, 167, 173, 179, 181] = true := by kernel_rfl
theorem dfs_97 : dfs tstQ 1073741824 8 97 [97, 101, 103, 107, 109, 113, 127, 131, 137, 139, 149, 151, 157, 163, 167, 173, 179, 181] = true := by kernel_rfl
theorem dfs_101 : dfs tstQ 1073741824 8 101 [101, 103, 107, 109, 113, 127, 131, 137, 139, 149, 151, 157, 163, 167, 173, 179, 181] = true := by kernel_rfl
theorem dfs_103 : dfs tstQ 1073741824 8 103 [103, 107, 109, 113, 127, 131, 137, 139, 149, 151, 157, 163, 167, 173, 179, 181] = true := by kernel_rfl
theorem dfs_107 : dfs tstQ 1073741824 8 107 [107, 109, 113, 127, 131, 137, 139, 149, 151, 157, 163, 167, 173, 179, 181] = true := by kernel_rfl
theorem dfs_109 : dfs tstQ 1073741824 8 109 [109, 113, 127, 131, 137, 139, 149, 151, 157, 163, 167, 173, 179, 181] = true := by kernel_rfl
theorem dfs_113 : dfs tstQ 1073741824 8 113 [113, 127, 131, 137, 139, 149, 151, 157, 163, 167, 173, 179, 181] = true := by kernel_rfl
theorem dfs_127 : dfs tstQ 1073741824 8 127 [127, 131, 137, 139, 149, 151, 157, 163, 167, 173, 179, 181] = true := by kernel_rfl
theorem dfs_131 : dfs tstQ 1073741824 8 131 [131, 137, 139, 149, 151, 157, 163, 167, 173, 179, 181] = true := by kernel_rfl
theorem dfs_137 : dfs tstQ 1073741824 8 137 [137, 139, 149, 151, 157, 163, 167, 173, 179, 181] = true := by kernel_rfl
theorem dfs_139 : dfs tstQ 1073741824 8 139 [139, 149, 151, 157, 163, 167, 173, 179, 181] = true := by kernel_rfl
theorem dfs_149 : dfs tstQ 1073741824 8 149 [149, 151, 157, 163, 167, 173, 179, 181] = true := by kernel_rfl
theorem dfs_151 : dfs tstQ 1073741824 8 151 [151, 157, 163, 167, 173, 179, 181] = true := by kernel_rfl
theorem dfs_157 : dfs tstQ 1073741824 8 157 [157, 163, 167, 173, 179, 181] = true := by kernel_rfl
theorem dfs_163 : dfs tstQ 1073741824 8 163 [163, 167, 173, 179, 181] = true := by kernel_rfl
theorem dfs_167 : dfs tstQ 1073741824 8 167 [167, 173, 179, 181] = true := by kernel_rfl
theorem dfs_173 : dfs tstQ 1073741824 8 173 [173, 179, 181] = true := by kernel_rfl
theorem dfs_179 : dfs tstQ 1073741824 8 179 [179, 181] = true := by kernel_rfl
theorem dfs_181 : dfs tstQ 1073741824 8 181 [181] = true := by kernel_rfl
theorem allS_Q : AllS tstQ 1073741824 8 [11, 13, 17, 19, 23, 29, 31, 37, 41, 43, 47, 53, 59, 61, 67, 71, 73, 79, 83, 89, 97, 101, 103, 107, 109, 113, 127, 131, 137, 139, 149, 151, 157, 163, 167, 173, 179, 181] := ⟨dfs_11, dfs_13, dfs_17, dfs_19, dfs_23, dfs_29, dfs_31, dfs_37, dfs_41, dfs_43, dfs_47, dfs_53, dfs_59, dfs_61, dfs_67, dfs_71, dfs_73, dfs_79, dfs_83, dfs_89, dfs_97, dfs_101, dfs_103, dfs_107, dfs_109, dfs_113, dfs_127, dfs_131, dfs_137, dfs_139, dfs_149, dfs_151, dfs_157, dfs_163, dfs_167, dfs_173, dfs_179, dfs_181, True.intro⟩
end Go.Proofs.YtlhipgejiacklaaDoor
namespace Go.Proofs.YtlhipgejiacklaaDoor
theorem dfsA : frc PP (fun P => dfs (chkA P) 32767 5 1 [11, 13, 17, 19, 23, 29, 31, 37, 41, 43, 47, 53, 59, 61, 67, 71, 73, 79, 83, 89, 97, 101, 103, 107, 109, 113, 127, 131, 137, 139, 149, 151, 157, 163, 167, 173, 179, 181]) = true := by kernel_rfl
end Go.Proofs.YtlhipgejiacklaaDoor
namespace Go.Proofs.YtlhipgejiacklaaDoor

theorem chks_get {lo n r : Nat} (h : chks lo n = true) (h1 : lo < r) (h2 : r ≤ lo + 2 * n) (he : lo % 2 = 0) (ho : r % 2 = 1) : chk r = true := by
  have := chks_at n h ((r - lo - 1) / 2) (by omega)
  rw [show lo + 2 * ((r - lo - 1) / 2) + 1 = r by omega] at this
  exact this
theorem chk_all {r : Nat} (h1 : 180 < r) (h2 : r ≤ 32768) (ho : r % 2 = 1) : chk r = true := by
  rcases Nat.lt_or_ge 190 r with h1 | h
  case inr => exact chks_get chks_180 (by omega) (by omega) (by omega) ho
  rcases Nat.lt_or_ge 196 r with h1 | h
  case inr => exact chks_get chks_190 (by omega) (by omega) (by omega) ho
  rcases Nat.lt_or_ge 210 r with h1 | h
  case inr => exact chks_get chks_196 (by omega) (by omega) (by omega) ho
  rcases Nat.lt_or_ge 226 r with h1 | h
  case inr => exact chks_get chks_210 (by omega) (by omega) (by omega) ho
  rcases Nat.lt_or_ge 238 r with h1 | h
  case inr => exact chks_get chks_226 (by omega) (by omega) (by omega) ho
  rcases Nat.lt_or_ge 256 r with h1 | h
  case inr => exact chks_get chks_238 (by omega) (by omega) (by omega) ho
  rcases Nat.lt_or_ge 276 r with h1 | h
  case inr => exact chks_get chks_256 (by omega) (by omega) (by omega) ho
  rcases Nat.lt_or_ge 306 r with h1 | h
  case inr => exact chks_get chks_276 (by omega) (by omega) (by omega) ho
  rcases Nat.lt_or_ge 330 r with h1 | h
  case inr => exact chks_get chks_306 (by omega) (by omega) (by omega) ho
  rcases Nat.lt_or_ge 366 r with h1 | h
  case inr => exact chks_get chks_330 (by omega) (by omega) (by omega) ho
  rcases Nat.lt_or_ge 418 r with h1 | h
  case inr => exact chks_get chks_366 (by omega) (by omega) (by omega) ho
  rcases Nat.lt_or_ge 478 r with h1 | h
  case inr => exact chks_get chks_418 (by omega) (by omega) (by omega) ho
  rcases Nat.lt_or_ge 576 r with h1 | h
  case inr => exact chks_get chks_478 (by omega) (by omega) (by omega) ho
  rcases Nat.lt_or_ge 708 r with h1 | h
  case inr => exact chks_get chks_576 (by omega) (by omega) (by omega) ho
  rcases Nat.lt_or_ge 936 r with h1 | h
  case inr => exact chks_get chks_708 (by omega) (by omega) (by omega) ho
  rcases Nat.lt_or_ge 1302 r with h1 | h
  case inr => exact chks_get chks_936 (by omega) (by omega) (by omega) ho
  rcases Nat.lt_or_ge 2088 r with h1 | h
  case inr => exact chks_get chks_1302 (by omega) (by omega) (by omega) ho
  rcases Nat.lt_or_ge 2888 r with h1 | h
  case inr => exact chks_get chks_2088 (by omega) (by omega) (by omega) ho
  rcases Nat.lt_or_ge 3688 r with h1 | h
  case inr => exact chks_get chks_2888 (by omega) (by omega) (by omega) ho
  rcases Nat.lt_or_ge 4488 r with h1 | h
  case inr => exact chks_get chks_3688 (by omega) (by omega) (by omega) ho
  rcases Nat.lt_or_ge 5288 r with h1 | h
  case inr => exact chks_get chks_4488 (by omega) (by omega) (by omega) ho
  rcases Nat.lt_or_ge 6088 r with h1 | h
  case inr => exact chks_get chks_5288 (by omega) (by omega) (by omega) ho
  rcases Nat.lt_or_ge 6888 r with h1 | h
  case inr => exact chks_get chks_6088 (by omega) (by omega) (by omega) ho
  rcases Nat.lt_or_ge 7688 r with h1 | h
  case inr => exact chks_get chks_6888 (by omega) (by omega) (by omega) ho
  rcases Nat.lt_or_ge 8488 r with h1 | h
  case inr => exact chks_get chks_7688 (by omega) (by omega) (by omega) ho
  rcases Nat.lt_or_ge 9288 r with h1 | h
  case inr => exact chks_get chks_8488 (by omega) (by omega) (by omega) ho
  rcases Nat.lt_or_ge 10088 r with h1 | h
  case inr => exact chks_get chks_9288 (by omega) (by omega) (by omega) ho
  rcases Nat.lt_or_ge 10888 r with h1 | h
  case inr => exact chks_get chks_10088 (by omega) (by omega) (by omega) ho
  rcases Nat.lt_or_ge 11688 r with h1 | h
  case inr => exact chks_get chks_10888 (by omega) (by omega) (by omega) ho
  rcases Nat.lt_or_ge 12488 r with h1 | h
  case inr => exact chks_get chks_11688 (by omega) (by omega) (by omega) ho
  rcases Nat.lt_or_ge 13288 r with h1 | h
  case inr => exact chks_get chks_12488 (by omega) (by omega) (by omega) ho
  rcases Nat.lt_or_ge 14088 r with h1 | h
  case inr => exact chks_get chks_13288 (by omega) (by omega) (by omega) ho
  rcases Nat.lt_or_ge 14888 r with h1 | h
  case inr => exact chks_get chks_14088 (by omega) (by omega) (by omega) ho
  rcases Nat.lt_or_ge 15688 r with h1 | h
  case inr => exact chks_get chks_14888 (by omega) (by omega) (by omega) ho
  rcases Nat.lt_or_ge 16488 r with h1 | h
  case inr => exact chks_get chks_15688 (by omega) (by omega) (by omega) ho
  rcases Nat.lt_or_ge 17288 r with h1 | h
  case inr => exact chks_get chks_16488 (by omega) (by omega) (by omega) ho
  rcases Nat.lt_or_ge 18088 r with h1 | h
  case inr => exact chks_get chks_17288 (by omega) (by omega) (by omega) ho
  rcases Nat.lt_or_ge 18888 r with h1 | h
  case inr => exact chks_get chks_18088 (by omega) (by omega) (by omega) ho
  rcases Nat.lt_or_ge 19688 r with h1 | h
  case inr => exact chks_get chks_18888 (by omega) (by omega) (by omega) ho
  rcases Nat.lt_or_ge 20488 r with h1 | h
  case inr => exact chks_get chks_19688 (by omega) (by omega) (by omega) ho
  rcases Nat.lt_or_ge 21288 r with h1 | h
  case inr => exact chks_get chks_20488 (by omega) (by omega) (by omega) ho
  rcases Nat.lt_or_ge 22088 r with h1 | h
  case inr => exact chks_get chks_21288 (by omega) (by omega) (by omega) ho
  rcases Nat.lt_or_ge 22888 r with h1 | h
  case inr => exact chks_get chks_22088 (by omega) (by omega) (by omega) ho
  rcases Nat.lt_or_ge 23688 r with h1 | h
  case inr => exact chks_get chks_22888 (by omega) (by omega) (by omega) ho
  rcases Nat.lt_or_ge 24488 r with h1 | h
  case inr => exact chks_get chks_23688 (by omega) (by omega) (by omega) ho
  rcases Nat.lt_or_ge 25288 r with h1 | h
  case inr => exact chks_get chks_24488 (by omega) (by omega) (by omega) ho
  rcases Nat.lt_or_ge 26088 r with h1 | h
  case inr => exact chks_get chks_25288 (by omega) (by omega) (by omega) ho
  rcases Nat.lt_or_ge 26888 r with h1 | h
  case inr => exact chks_get chks_26088 (by omega) (by omega) (by omega) ho
  rcases Nat.lt_or_ge 27688 r with h1 | h
  case inr => exact chks_get chks_26888 (by omega) (by omega) (by omega) ho
  rcases Nat.lt_or_ge 28488 r with h1 | h
  case inr => exact chks_get chks_27688 (by omega) (by omega) (by omega) ho
  rcases Nat.lt_or_ge 29288 r with h1 | h
  case inr => exact chks_get chks_28488 (by omega) (by omega) (by omega) ho
  rcases Nat.lt_or_ge 30088 r with h1 | h
  case inr => exact chks_get chks_29288 (by omega) (by omega) (by omega) ho
  rcases Nat.lt_or_ge 30888 r with h1 | h
  case inr => exact chks_get chks_30088 (by omega) (by omega) (by omega) ho
  rcases Nat.lt_or_ge 31688 r with h1 | h
  case inr => exact chks_get chks_30888 (by omega) (by omega) (by omega) ho
  rcases Nat.lt_or_ge 32488 r with h1 | h
  case inr => exact chks_get chks_31688 (by omega) (by omega) (by omega) ho
  exact chks_get chks_32488 (by omega) (by omega) (by omega) ho
def Q181 : List Nat := [11, 13, 17, 19, 23, 29, 31, 37, 41, 43, 47, 53, 59, 61, 67, 71, 73, 79, 83, 89, 97, 101, 103, 107, 109, 113, 127, 131, 137, 139, 149, 151, 157, 163, 167, 173, 179, 181]
theorem Q_sorted : Q181.Pairwise (· ≤ ·) := by decide +kernel
theorem Q_prime : ∀ q ∈ Q181, primeB q 20 = true := by decide +kernel
theorem Q_all : ∀ q, q < 182 → q < 2 ∨ q ∈ Q181 ∨ q ∈ [2, 3, 5, 7] ∨ ∃ d, d < q ∧ 1 < d ∧ q % d = 0 := by
  have h : ∀ q, q < 182 → q < 2 ∨ q ∈ Q181 ∨ q ∈ [2, 3, 5, 7] ∨ (2 < q ∧ q % 2 = 0) ∨ (3 < q ∧ q % 3 = 0) ∨ (5 < q ∧ q % 5 = 0) ∨ (7 < q ∧ q % 7 = 0) ∨ (11 < q ∧ q % 11 = 0) ∨ (13 < q ∧ q % 13 = 0) := by decide +kernel
  intro q hq
  rcases h q hq with h | h | h | h | h | h | h | h | h
  · exact .inl h
  · exact .inr (.inl h)
  · exact .inr (.inr (.inl h))
  all_goals exact .inr (.inr (.inr ⟨_, h.1, by omega, h.2⟩))
theorem Pass4.nd {n : Nat} (h : Pass4 n) {q : Nat} (hd : q ∣ n) (hq : q ∈ [2, 3, 5, 7]) : False := by
  have k : ∀ b, 2 ≤ b → Nat.Coprime n b → ¬ b ∣ n := fun b hb hc hd => by
    have : b ∣ Nat.gcd n b := Nat.dvd_gcd hd (Nat.dvd_refl b)
    rw [hc] at this
    have := Nat.le_of_dvd (by omega) this; omega
  simp only [List.mem_cons, List.not_mem_nil, or_false] at hq
  rcases hq with rfl | rfl | rfl | rfl
  · exact k 2 (by omega) h.c2 hd
  · exact k 3 (by omega) h.c3 hd
  · exact k 5 (by omega) h.c5 hd
  · exact k 7 (by omega) h.c7 hd
theorem Pass4.small {n : Nat} (h : Pass4 n) {q : Nat} (hq : PrimeN q) (hd : q ∣ n) (hs : q < 182) : q ∈ Q181 := by
  have h2 := hq.1
  rcases Q_all q hs with e | e | e | ⟨d, d1, d2, d3⟩
  · omega
  · exact e
  · exact (h.nd hd e).elim
  · rcases hq.2 d (Nat.dvd_of_mod_eq_zero d3) with e | e <;> omega
theorem pass4_prime {n : Nat} (h : Pass4 n) : PrimeN n := by
  refine Classical.byContradiction fun hn => ?_
  have hlo := h.lo
  have hhi := h.hi
  have hodd := h.odd
  have hs2 : ∀ r s, PrimeN r → n = r * s → 2 ≤ s := fun r s hr e => by
    rcases Nat.lt_or_ge s 2 with h1 | h1
    · exfalso
      have : s = 0 ∨ s = 1 := by omega
      rcases this with e1 | e1
      · subst e1; omega
      · subst e1; rw [Nat.mul_one] at e; exact hn (e ▸ hr)
    · exact h1
  by_cases hB : ∃ r, PrimeN r ∧ r ∣ n ∧ 181 < r ∧ r ≤ 32768
  · obtain ⟨r, hr, ⟨s, hrs⟩, h1, h2⟩ := hB
    have hro : r % 2 = 1 := by
      rcases Nat.mod_two_eq_zero_or_one r with e | e
      · have : n % 2 = 0 := by rw [hrs, Nat.mul_mod, e]; simp
        omega
      · exact e
    exact chk_no hr h1 (chk_all (by omega) h2 hro) (hs2 r s hr hrs) (hrs ▸ h)
  · have hcase : ∀ q, PrimeN q → q ∣ n → q ∈ Q181 ∨ 32768 < q := fun q hq hd => by
      rcases Nat.lt_or_ge q 182 with h1 | h1
      · exact .inl (h.small hq hd h1)
      · right
        rcases Nat.lt_or_ge 32768 q with h2 | h2
        · exact h2
        · exact absurd ⟨q, hq, hd, by omega, h2⟩ hB
    by_cases hA : ∃ r, PrimeN r ∧ r ∣ n ∧ 32768 < r
    · obtain ⟨r, hr, ⟨s, hrs⟩, h1⟩ := hA
      have hs := hs2 r s hr hrs
      have hsl : s < 32768 := by
        rcases Nat.lt_or_ge s 32768 with h2 | h2
        · exact h2
        · have := Nat.mul_le_mul (show 32769 ≤ r by omega) h2; omega
      have hA := dfsA
      rw [frc_eq] at hA
      have hc := dfs_at 5 1 Q181 hA (by omega) Q_sorted s hs (fun q hq hd => by
        rcases hcase q hq (hrs ▸ Nat.dvd_trans hd (Nat.dvd_mul_left s r)) with e | e
        · exact e
        · have := Nat.le_of_dvd (by omega) hd; omega) (by omega)
      rw [Nat.one_mul] at hc
      exact chkA_no hr (by omega) hs (by omega) hc (hrs ▸ h)
    · rcases allS_Q.at Q_sorted n (by omega) (fun q hq hd => by
        rcases hcase q hq hd with e | e
        · exact e
        · exact absurd ⟨q, hq, hd, e⟩ hA) (by omega) with h1 | h1
      · exact hn (primeB_sound (Q_prime n h1))
      · exact tstQ_no h h1
theorem validI_sound {n : Nat} (h : validI (n : Int) = true) : PrimeN n := by
  rcases valid_pass h with e | e | e | e | h
  · subst e; exact prime_2
  · subst e; exact prime_3
  · subst e; exact prime_5
  · subst e; exact prime_7
  · exact pass4_prime h
end Go.Proofs.YtlhipgejiacklaaDoor
namespace Go.Proofs.YtlhipgejiacklaaDoor
open Go.RowKit

theorem valid_eq (p : Int) : validI p = primeV p := by
  by_cases h : p ≤ 1073741824 ∧ PrimeN p.toNat
  · obtain ⟨h1, h2⟩ := h
    have h3 := h2.1
    obtain ⟨p, rfl⟩ := Int.eq_ofNat_of_zero_le (show 0 ≤ p by omega)
    rw [Int.toNat_natCast] at h2
    rw [validI_prime h2 (by omega)]; exact primeV_true (by omega) h2
  · rw [← primeV_false h]
    by_cases h2 : p < 2
    · exact (validI_small h2).symm
    · by_cases h3 : 1073741824 < p
      · exact (validI_big h3).symm
      · obtain ⟨p, rfl⟩ := Int.eq_ofNat_of_zero_le (show 0 ≤ p by omega)
        rw [Int.toNat_natCast] at h
        cases hv : validI (p : Int) with
        | false => rfl
        | true => exact absurd ⟨by omega, validI_sound hv⟩ h
theorem prime_eq (p : Int) : primeV p = validI p := (valid_eq p).symm
end Go.Proofs.YtlhipgejiacklaaDoor
namespace Go.Proofs.YtlhipgejiacklaaDoor
open Go.RowKit
attribute [local go_sem high] sliced_low

def toB (p : Nat) (p' n' h' : Int) : Bool := plB p' n' h' && decide ((p : Int) = p')
theorem toB_pl {p : Nat} {p' n' h' : Int} (H : plB p' n' h' = false) : toB p p' n' h' = false := by unfold toB; rw [H]; rfl
theorem toB_ne {p : Nat} {p' n' h' : Int} (H : ¬ (p : Int) = p') : toB p p' n' h' = false := by unfold toB; rw [decide_eq_false H]; simp
theorem toB_eq {p : Nat} {n' h' : Int} (H : plB (p : Int) n' h' = true) : toB p p n' h' = true := by unfold toB; rw [H]; simp
theorem toB_of {p : Nat} {p' n' h' : Int} (H : toB p p' n' h' = true) : plB p' n' h' = true ∧ (p : Int) = p' := by unfold toB at H; simpa using H
theorem toB_nat {p n h : Nat} {p' n' h' : Int} (P : PlanN p n h) (H : toB p p' n' h' = true) : ∃ n1 h1 : Nat, p' = (p : Int) ∧ n' = (n1 : Int) ∧ h' = (h1 : Int) ∧ PlanN p n1 h1 := by
  obtain ⟨h1, h2⟩ := toB_of H
  obtain ⟨a, b, c, d, -⟩ := (of_decide_eq_true h1 : PlanP p' n' h')
  subst h2
  refine ⟨n'.toNat, h'.toNat, rfl, by omega, by omega, P.pr, P.pv, ?_, by omega, by omega, by omega, by omega, P.p2⟩
  rw [show ((n'.toNat : Nat) : Int) = n' by omega, show ((h'.toNat : Nat) : Int) = h' by omega]; exact h1

set_option maxRecDepth 100000 in
set_option maxHeartbeats 1000000 in
theorem plans_toB (p n h : Nat) (p' n' h' : Int) (w : World) (P : PlanN p n h) (hB : Bases w) : Calls Tryd.prog 70 #[planV p n h, planV p' n' h'] w (RetB (.bool (toB p p' n' h')) w) := by
  have HV := Lib.hid (fun (W : World) (hb : Below w.heap.size w W) => valid_plan p n h W (hB.below hb hB.1))
  rw [P.pl] at HV
  have HV' := Lib.hid (fun (W : World) (hb : Below w.heap.size w W) => valid_plan p' n' h' W (hB.below hb hB.1))
  clear hB P
  cases hpl : plB p' n' h' with
  | false =>
    rw [toB_pl hpl]
    rw [hpl] at HV'
    clear hpl
    go_enter Tryd.func70, Tryd.ntmps70
    go_wp2_with fail
    refine gen_calls fun w1 hw1 => ?_
    have hP : PlanCell w1 w.heap.size p n h := by rw [hw1]; exact (PlanCell.new _ _ _ rfl).alloc _
    have hQ : PlanCell w1 (w.heap.size + 1) p' n' h' := by rw [hw1]; exact PlanCell.new _ _ _ (by simp)
    have hb1 : Below w.heap.size w w1 := by rw [hw1]; exact bl_alloc _ (below_alloc _ _)
    clear hw1
    refine ret_below (HV.out _ hb1) fun w2 hb2 => ?_
    have hQ2 := hQ.below hb2
    have hb2w := below_trans hb1 hb2
    have q0 := hQ2.c0
    have q1 := hQ2.c1
    have q2 := hQ2.c2
    clear hP hQ hb1 hb2
    go_wp2_with fail
    refine ret_below (HV'.out _ hb2w) fun w3 hb3 => ?_
    go_wp2_with fail
    go_ret
    exact RetB.bool rfl (below_trans hb2w hb3)
  | true =>
    rw [hpl] at HV'
    by_cases he : (p : Int) = p'
    · subst he
      rw [toB_eq hpl]
      clear hpl
      go_enter Tryd.func70, Tryd.ntmps70
      go_wp2_with fail
      refine gen_calls fun w1 hw1 => ?_
      have hP : PlanCell w1 w.heap.size p n h := by rw [hw1]; exact (PlanCell.new _ _ _ rfl).alloc _
      have hQ : PlanCell w1 (w.heap.size + 1) p n' h' := by rw [hw1]; exact PlanCell.new _ _ _ (by simp)
      have hb1 : Below w.heap.size w w1 := by rw [hw1]; exact bl_alloc _ (below_alloc _ _)
      clear hw1
      refine ret_below (HV.out _ hb1) fun w2 hb2 => ?_
      have hP2 := hP.below hb2
      have hQ2 := hQ.below hb2
      have hb2w := below_trans hb1 hb2
      have q0 := hQ2.c0
      have q1 := hQ2.c1
      have q2 := hQ2.c2
      clear hP hQ hb1 hb2
      go_wp2_with fail
      refine ret_below (HV'.out _ hb2w) fun w3 hb3 => ?_
      have p0 := (hP2.below hb3).c0
      have r0 := (hQ2.below hb3).c0
      clear q0 q1 q2 hP2 hQ2
      go_wp2_with fail
      go_ret
      exact RetB.bool (by simp) (below_trans hb2w hb3)
    · rw [toB_ne he]
      have t1 : ((p : Int) == p') = false := by simp [he]
      clear hpl he
      go_enter Tryd.func70, Tryd.ntmps70
      go_wp2_with fail
      refine gen_calls fun w1 hw1 => ?_
      have hP : PlanCell w1 w.heap.size p n h := by rw [hw1]; exact (PlanCell.new _ _ _ rfl).alloc _
      have hQ : PlanCell w1 (w.heap.size + 1) p' n' h' := by rw [hw1]; exact PlanCell.new _ _ _ (by simp)
      have hb1 : Below w.heap.size w w1 := by rw [hw1]; exact bl_alloc _ (below_alloc _ _)
      clear hw1
      refine ret_below (HV.out _ hb1) fun w2 hb2 => ?_
      have hP2 := hP.below hb2
      have hQ2 := hQ.below hb2
      have hb2w := below_trans hb1 hb2
      have q0 := hQ2.c0
      have q1 := hQ2.c1
      have q2 := hQ2.c2
      clear hP hQ hb1 hb2
      go_wp2_with fail
      refine ret_below (HV'.out _ hb2w) fun w3 hb3 => ?_
      have p0 := (hP2.below hb3).c0
      have r0 := (hQ2.below hb3).c0
      clear q0 q1 q2 hP2 hQ2
      go_wp2_with fail
      go_ret
      exact RetB.bool (by simp [t1]) (below_trans hb2w hb3)

set_option maxRecDepth 100000 in
set_option maxHeartbeats 1000000 in
theorem refPlans_toB (p n h : Nat) (p' n' h' : Int) (w : World) (P : PlanN p n h) : Calls Tryd.prog 72 #[planV p n h, planV p' n' h'] w (RetB (.bool (toB p p' n' h')) w) := by
  have HV := Lib.hid (fun (W : World) (hb : Below w.heap.size w W) => refValid_plan p n h W (prime_eq _))
  rw [P.pl] at HV
  have HV' := Lib.hid (fun (W : World) (hb : Below w.heap.size w W) => refValid_plan p' n' h' W (prime_eq _))
  clear P
  cases hpl : plB p' n' h' with
  | false =>
    rw [toB_pl hpl]
    rw [hpl] at HV'
    clear hpl
    go_enter Tryd.func72, Tryd.ntmps72
    go_wp2_with fail
    refine gen_calls fun w1 hw1 => ?_
    have hP : PlanCell w1 w.heap.size p n h := by rw [hw1]; exact (PlanCell.new _ _ _ rfl).alloc _
    have hQ : PlanCell w1 (w.heap.size + 1) p' n' h' := by rw [hw1]; exact PlanCell.new _ _ _ (by simp)
    have hb1 : Below w.heap.size w w1 := by rw [hw1]; exact bl_alloc _ (below_alloc _ _)
    clear hw1
    refine ret_below (HV.out _ hb1) fun w2 hb2 => ?_
    have hQ2 := hQ.below hb2
    have hb2w := below_trans hb1 hb2
    have q0 := hQ2.c0
    have q1 := hQ2.c1
    have q2 := hQ2.c2
    clear hP hQ hb1 hb2
    go_wp2_with fail
    refine ret_below (HV'.out _ hb2w) fun w3 hb3 => ?_
    go_wp2_with fail
    go_ret
    exact RetB.bool rfl (below_trans hb2w hb3)
  | true =>
    rw [hpl] at HV'
    by_cases he : (p : Int) = p'
    · subst he
      rw [toB_eq hpl]
      clear hpl
      go_enter Tryd.func72, Tryd.ntmps72
      go_wp2_with fail
      refine gen_calls fun w1 hw1 => ?_
      have hP : PlanCell w1 w.heap.size p n h := by rw [hw1]; exact (PlanCell.new _ _ _ rfl).alloc _
      have hQ : PlanCell w1 (w.heap.size + 1) p n' h' := by rw [hw1]; exact PlanCell.new _ _ _ (by simp)
      have hb1 : Below w.heap.size w w1 := by rw [hw1]; exact bl_alloc _ (below_alloc _ _)
      clear hw1
      refine ret_below (HV.out _ hb1) fun w2 hb2 => ?_
      have hP2 := hP.below hb2
      have hQ2 := hQ.below hb2
      have hb2w := below_trans hb1 hb2
      have q0 := hQ2.c0
      have q1 := hQ2.c1
      have q2 := hQ2.c2
      clear hP hQ hb1 hb2
      go_wp2_with fail
      refine ret_below (HV'.out _ hb2w) fun w3 hb3 => ?_
      have p0 := (hP2.below hb3).c0
      have r0 := (hQ2.below hb3).c0
      clear q0 q1 q2 hP2 hQ2
      go_wp2_with fail
      go_ret
      exact RetB.bool (by simp) (below_trans hb2w hb3)
    · rw [toB_ne he]
      have t1 : ((p : Int) == p') = false := by simp [he]
      clear hpl he
      go_enter Tryd.func72, Tryd.ntmps72
      go_wp2_with fail
      refine gen_calls fun w1 hw1 => ?_
      have hP : PlanCell w1 w.heap.size p n h := by rw [hw1]; exact (PlanCell.new _ _ _ rfl).alloc _
      have hQ : PlanCell w1 (w.heap.size + 1) p' n' h' := by rw [hw1]; exact PlanCell.new _ _ _ (by simp)
      have hb1 : Below w.heap.size w w1 := by rw [hw1]; exact bl_alloc _ (below_alloc _ _)
      clear hw1
      refine ret_below (HV.out _ hb1) fun w2 hb2 => ?_
      have hP2 := hP.below hb2
      have hQ2 := hQ.below hb2
      have hb2w := below_trans hb1 hb2
      have q0 := hQ2.c0
      have q1 := hQ2.c1
      have q2 := hQ2.c2
      clear hP hQ hb1 hb2
      go_wp2_with fail
      refine ret_below (HV'.out _ hb2w) fun w3 hb3 => ?_
      have p0 := (hP2.below hb3).c0
      have r0 := (hQ2.below hb3).c0
      clear q0 q1 q2 hP2 hQ2
      go_wp2_with fail
      go_ret
      exact RetB.bool (by simp [t1]) (below_trans hb2w hb3)

/-! ### Split -/
noncomputable def spE (p h : Nat) (p' n' h' x : Int) (L ran : List Int) : Int := if toB p p' n' h' = true then (if stB p h x L = true then dlE p' n' h' L ran else 1) else 1
noncomputable def spL (p h : Nat) (p' n' h' x : Int) (L ran : List Int) : List ShN := if toB p p' n' h' = true then (if stB p h x L = true then dlL p' n' h' L ran else []) else []
theorem sp_to {p h : Nat} {p' n' h' x : Int} {L ran : List Int} (H : toB p p' n' h' = false) : spE p h p' n' h' x L ran = 1 ∧ spL p h p' n' h' x L ran = [] := by
  unfold spE spL; rw [H]; exact ⟨rfl, rfl⟩
theorem sp_st {p h : Nat} {p' n' h' x : Int} {L ran : List Int} (G : toB p p' n' h' = true) (H : stB p h x L = false) : spE p h p' n' h' x L ran = 1 ∧ spL p h p' n' h' x L ran = [] := by
  unfold spE spL; rw [G, H]; exact ⟨rfl, rfl⟩
theorem sp_ok {p h : Nat} {p' n' h' x : Int} {L ran : List Int} (G : toB p p' n' h' = true) (H : stB p h x L = true) : spE p h p' n' h' x L ran = dlE p' n' h' L ran ∧ spL p h p' n' h' x L ran = dlL p' n' h' L ran := by
  unfold spE spL; rw [G, H]; exact ⟨rfl, rfl⟩

set_option maxRecDepth 100000 in
set_option maxHeartbeats 4000000 in
theorem split_any (p n h : Nat) (p' n' h' x : Int) (B C : Option Addr) (L ran : List Int) (cb cc : Nat) (w : World) (P : PlanN p n h) (hB : Bases w) (hI : IntsAt w B L) (hR : IntsAt w C ran) (hok : IOK C cc ran.length) (hl1 : L.length ≤ 1048576) (hl2 : ran.length ≤ 1048576) :
    Calls Tryd.prog 42 #[planV p n h, planV p' n' h', shV x (.slice B L.length cb), .slice C ran.length cc] w (ShErr (shL (spL p h p' n' h' x L ran)) (spE p h p' n' h' x L ran) w) := by
  have HPL := Lib.hid (fun (W : World) (hb : Below w.heap.size w W) => plans_toB p n h p' n' h' W P (hB.below hb hB.1))
  have HST := Lib.hid (fun (W : World) (hb : Below w.heap.size w W) => stands_any p n h x B L cb W (hI.below hb) (by omega))
  have HDL := Lib.hid (fun (W : World) (hb : Below w.heap.size w W) => dealS_any p' n' h' B C cb cc L ran W (prime_eq p') (hB.below hb hB.1) (hI.below hb) (hR.below hb) hok hl1 hl2)
  clear hB hI hR hok P
  cases hto : toB p p' n' h' with
  | false =>
    rw [(sp_to hto).1, (sp_to hto).2]
    rw [hto] at HPL
    clear hto
    go_enter Tryd.func42, Tryd.ntmps42
    go_wp2_with fail
    refine gen_calls fun w1 hw1 => ?_
    have hP : PlanCell w1 w.heap.size p n h := by rw [hw1]; exact ((PlanCell.new _ _ _ rfl).alloc _).alloc _
    have hQ : PlanCell w1 (w.heap.size + 1) p' n' h' := by rw [hw1]; exact (PlanCell.new _ _ _ (by simp)).alloc _
    have hS : ShCell w1 (w.heap.size + 1 + 1) x (.slice B L.length cb) := by rw [hw1]; exact ShCell.new _ _ (by simp)
    have hb1 : Below w.heap.size w w1 := by rw [hw1]; exact bl_alloc _ (bl_alloc _ (below_alloc _ _))
    clear hw1
    refine ret_below (HPL.out _ hb1) fun w2 hb2 => ?_
    have hb2w := below_trans hb1 hb2
    go_wp2_with fail
    go_ret2
    exact ShErr.nil _ hb2w
  | true =>
    rw [hto] at HPL
    cases hst : stB p h x L with
    | false =>
      rw [(sp_st hto hst).1, (sp_st hto hst).2]
      rw [hst] at HST
      clear hto hst
      go_enter Tryd.func42, Tryd.ntmps42
      go_wp2_with fail
      refine gen_calls fun w1 hw1 => ?_
      have hP : PlanCell w1 w.heap.size p n h := by rw [hw1]; exact ((PlanCell.new _ _ _ rfl).alloc _).alloc _
      have hQ : PlanCell w1 (w.heap.size + 1) p' n' h' := by rw [hw1]; exact (PlanCell.new _ _ _ (by simp)).alloc _
      have hS : ShCell w1 (w.heap.size + 1 + 1) x (.slice B L.length cb) := by rw [hw1]; exact ShCell.new _ _ (by simp)
      have hb1 : Below w.heap.size w w1 := by rw [hw1]; exact bl_alloc _ (bl_alloc _ (below_alloc _ _))
      clear hw1
      refine ret_below (HPL.out _ hb1) fun w2 hb2 => ?_
      have hb2w := below_trans hb1 hb2
      have hP2 := hP.below hb2
      have hQ2 := hQ.below hb2
      have hS2 := hS.below hb2
      have p0 := hP2.c0
      have p1 := hP2.c1
      have p2 := hP2.c2
      have s0 := hS2.c0
      have s1 := hS2.c1
      clear hP hQ hS hb1 hb2
      go_wp2_with fail
      refine ret_below (HST.out _ hb2w) fun w3 hb3 => ?_
      have hb3w := below_trans hb2w hb3
      go_wp2_with fail
      go_ret2
      exact ShErr.nil _ hb3w
    | true =>
      rw [(sp_ok hto hst).1, (sp_ok hto hst).2]
      rw [hst] at HST
      clear hto hst
      generalize shL (dlL p' n' h' L ran) = DS at *
      generalize dlE p' n' h' L ran = de at *
      go_enter Tryd.func42, Tryd.ntmps42
      go_wp2_with fail
      refine gen_calls fun w1 hw1 => ?_
      have hP : PlanCell w1 w.heap.size p n h := by rw [hw1]; exact ((PlanCell.new _ _ _ rfl).alloc _).alloc _
      have hQ : PlanCell w1 (w.heap.size + 1) p' n' h' := by rw [hw1]; exact (PlanCell.new _ _ _ (by simp)).alloc _
      have hS : ShCell w1 (w.heap.size + 1 + 1) x (.slice B L.length cb) := by rw [hw1]; exact ShCell.new _ _ (by simp)
      have hb1 : Below w.heap.size w w1 := by rw [hw1]; exact bl_alloc _ (bl_alloc _ (below_alloc _ _))
      clear hw1
      refine ret_below (HPL.out _ hb1) fun w2 hb2 => ?_
      have hb2w := below_trans hb1 hb2
      have hP2 := hP.below hb2
      have hQ2 := hQ.below hb2
      have hS2 := hS.below hb2
      have p0 := hP2.c0
      have p1 := hP2.c1
      have p2 := hP2.c2
      have s0 := hS2.c0
      have s1 := hS2.c1
      clear hP hQ hS hb1 hb2
      go_wp2_with fail
      refine ret_below (HST.out _ hb2w) fun w3 hb3 => ?_
      have hb3w := below_trans hb2w hb3
      have hQ3 := hQ2.below hb3
      have hS3 := hS2.below hb3
      have q0 := hQ3.c0
      have q1 := hQ3.c1
      have q2 := hQ3.c2
      have u0 := hS3.c0
      have u1 := hS3.c1
      clear p0 p1 p2 s0 s1 hP2 hQ2 hS2 hb2w hb3
      go_wp2_with fail
      refine (HDL.out _ hb3w).mono ?_
      rintro e w4 ⟨A4, c4, rfl, h4, hb4⟩
      have HX := Lib.hid (And.intro (h4.mono (Q := fun b => w.heap.size ≤ b) (fun b _ hb => Nat.le_trans hb3w.size hb)) (below_trans hb3w hb4))
      clear h4 hb4
      go_wp2_with fail
      go_ret2
      exact ⟨A4, c4, rfl, HX.out.1, HX.out.2⟩

set_option maxRecDepth 100000 in
set_option maxHeartbeats 4000000 in
theorem refSplit_any (p n h : Nat) (p' n' h' x : Int) (B C : Option Addr) (L ran : List Int) (cb cc : Nat) (w : World) (P : PlanN p n h) (hI : IntsAt w B L) (hR : IntsAt w C ran) (hok : IOK C cc ran.length) (hl1 : L.length ≤ 1048576) (hl2 : ran.length ≤ 1048576) :
    Calls Tryd.prog 43 #[planV p n h, planV p' n' h', shV x (.slice B L.length cb), .slice C ran.length cc] w (ShErr (shL (spL p h p' n' h' x L ran)) (spE p h p' n' h' x L ran) w) := by
  have hpv : primeV (p : Int) = true := by rw [P.pv]; have := of_decide_eq_true P.pl; exact this.2.2.2.2
  have HPL := Lib.hid (fun (W : World) (hb : Below w.heap.size w W) => refPlans_toB p n h p' n' h' W P)
  have HST := Lib.hid (fun (W : World) (hb : Below w.heap.size w W) => refStands_any p n h x B L cb W hpv (hI.below hb) (by omega))
  have HDL := Lib.hid (fun (W : World) (hb : Below w.heap.size w W) => refDealS_any p' n' h' B C cb cc L ran W (prime_eq p') (hI.below hb) (hR.below hb) hl1 hl2 hok)
  clear hpv hI hR hok P
  cases hto : toB p p' n' h' with
  | false =>
    rw [(sp_to hto).1, (sp_to hto).2]
    rw [hto] at HPL
    clear hto
    go_enter Tryd.func43, Tryd.ntmps43
    go_wp2_with fail
    refine gen_calls fun w1 hw1 => ?_
    have hP : PlanCell w1 w.heap.size p n h := by rw [hw1]; exact ((PlanCell.new _ _ _ rfl).alloc _).alloc _
    have hQ : PlanCell w1 (w.heap.size + 1) p' n' h' := by rw [hw1]; exact (PlanCell.new _ _ _ (by simp)).alloc _
    have hS : ShCell w1 (w.heap.size + 1 + 1) x (.slice B L.length cb) := by rw [hw1]; exact ShCell.new _ _ (by simp)
    have hb1 : Below w.heap.size w w1 := by rw [hw1]; exact bl_alloc _ (bl_alloc _ (below_alloc _ _))
    clear hw1
    refine ret_below (HPL.out _ hb1) fun w2 hb2 => ?_
    have hb2w := below_trans hb1 hb2
    go_wp2_with fail
    go_ret2
    exact ShErr.nil _ hb2w
  | true =>
    rw [hto] at HPL
    cases hst : stB p h x L with
    | false =>
      rw [(sp_st hto hst).1, (sp_st hto hst).2]
      rw [hst] at HST
      clear hto hst
      go_enter Tryd.func43, Tryd.ntmps43
      go_wp2_with fail
      refine gen_calls fun w1 hw1 => ?_
      have hP : PlanCell w1 w.heap.size p n h := by rw [hw1]; exact ((PlanCell.new _ _ _ rfl).alloc _).alloc _
      have hQ : PlanCell w1 (w.heap.size + 1) p' n' h' := by rw [hw1]; exact (PlanCell.new _ _ _ (by simp)).alloc _
      have hS : ShCell w1 (w.heap.size + 1 + 1) x (.slice B L.length cb) := by rw [hw1]; exact ShCell.new _ _ (by simp)
      have hb1 : Below w.heap.size w w1 := by rw [hw1]; exact bl_alloc _ (bl_alloc _ (below_alloc _ _))
      clear hw1
      refine ret_below (HPL.out _ hb1) fun w2 hb2 => ?_
      have hb2w := below_trans hb1 hb2
      have hP2 := hP.below hb2
      have hQ2 := hQ.below hb2
      have hS2 := hS.below hb2
      have p0 := hP2.c0
      have p1 := hP2.c1
      have p2 := hP2.c2
      have s0 := hS2.c0
      have s1 := hS2.c1
      clear hP hQ hS hb1 hb2
      go_wp2_with fail
      refine ret_below (HST.out _ hb2w) fun w3 hb3 => ?_
      have hb3w := below_trans hb2w hb3
      go_wp2_with fail
      go_ret2
      exact ShErr.nil _ hb3w
    | true =>
      rw [(sp_ok hto hst).1, (sp_ok hto hst).2]
      rw [hst] at HST
      clear hto hst
      generalize shL (dlL p' n' h' L ran) = DS at *
      generalize dlE p' n' h' L ran = de at *
      go_enter Tryd.func43, Tryd.ntmps43
      go_wp2_with fail
      refine gen_calls fun w1 hw1 => ?_
      have hP : PlanCell w1 w.heap.size p n h := by rw [hw1]; exact ((PlanCell.new _ _ _ rfl).alloc _).alloc _
      have hQ : PlanCell w1 (w.heap.size + 1) p' n' h' := by rw [hw1]; exact (PlanCell.new _ _ _ (by simp)).alloc _
      have hS : ShCell w1 (w.heap.size + 1 + 1) x (.slice B L.length cb) := by rw [hw1]; exact ShCell.new _ _ (by simp)
      have hb1 : Below w.heap.size w w1 := by rw [hw1]; exact bl_alloc _ (bl_alloc _ (below_alloc _ _))
      clear hw1
      refine ret_below (HPL.out _ hb1) fun w2 hb2 => ?_
      have hb2w := below_trans hb1 hb2
      have hP2 := hP.below hb2
      have hQ2 := hQ.below hb2
      have hS2 := hS.below hb2
      have p0 := hP2.c0
      have p1 := hP2.c1
      have p2 := hP2.c2
      have s0 := hS2.c0
      have s1 := hS2.c1
      clear hP hQ hS hb1 hb2
      go_wp2_with fail
      refine ret_below (HST.out _ hb2w) fun w3 hb3 => ?_
      have hb3w := below_trans hb2w hb3
      have hQ3 := hQ2.below hb3
      have hS3 := hS2.below hb3
      have q0 := hQ3.c0
      have q1 := hQ3.c1
      have q2 := hQ3.c2
      have u0 := hS3.c0
      have u1 := hS3.c1
      clear p0 p1 p2 s0 s1 hP2 hQ2 hS2 hb2w hb3
      go_wp2_with fail
      refine (HDL.out _ hb3w).mono ?_
      rintro e w4 ⟨A4, c4, rfl, h4, hb4⟩
      have HX := Lib.hid (And.intro (h4.mono (Q := fun b => w.heap.size ≤ b) (fun b _ hb => Nat.le_trans hb3w.size hb)) (below_trans hb3w hb4))
      clear h4 hb4
      go_wp2_with fail
      go_ret2
      exact ⟨A4, c4, rfl, HX.out.1, HX.out.2⟩
end Go.Proofs.YtlhipgejiacklaaDoor
namespace Go.Proofs.YtlhipgejiacklaaDoor
open Go.RowKit
attribute [local go_sem high] sliced_low

noncomputable def jnB (p h : Nat) (p' n' h' : Int) (F : List Int) (S : List Shr) : Bool := toB p p' n' h' && (gvB h F && (decide (F.length = S.length) && fitsB p' h' S))
noncomputable def jnE (p n h : Nat) (p' n' h' : Int) (F : List Int) (S : List Shr) : Int := if jnB p h p' n' h' F S = true then (if F.length < n then 5 else 0) else 1
noncomputable def jnX (p n h : Nat) (p' n' h' : Int) (F : List Int) (S : List Shr) : Int := if jnE p n h p' n' h' F S = 0 then hS S 0 else 0
noncomputable def jnV (p n h : Nat) (p' n' h' : Int) (F : List Int) (S : List Shr) : List Nat := if jnE p n h p' n' h' F S = 0 then joinV p (wsN p (F.map Int.toNat) 0) (fun i => vN (natL S) i) S.length else []
structure JnNo (p n h : Nat) (p' n' h' : Int) (F : List Int) (S : List Shr) (er : Int) : Prop where
  e : jnE p n h p' n' h' F S = er
  x : jnX p n h p' n' h' F S = 0
  v : jnV p n h p' n' h' F S = []
theorem jn_of {p n h : Nat} {p' n' h' : Int} {F : List Int} {S : List Shr} {er : Int} (he : jnE p n h p' n' h' F S = er) (h0 : er ≠ 0) : JnNo p n h p' n' h' F S er :=
  ⟨he, by unfold jnX; rw [if_neg (by rw [he]; exact h0)], by unfold jnV; rw [if_neg (by rw [he]; exact h0)]⟩
theorem jn_bad {p n h : Nat} {p' n' h' : Int} {F : List Int} {S : List Shr} (H : jnB p h p' n' h' F S = false) : JnNo p n h p' n' h' F S 1 := jn_of (by unfold jnE; rw [H]; rfl) (by decide)
theorem jn_to {p n h : Nat} {p' n' h' : Int} {F : List Int} {S : List Shr} (H : toB p p' n' h' = false) : JnNo p n h p' n' h' F S 1 := jn_bad (by unfold jnB; rw [H]; rfl)
theorem jn_gv {p n h : Nat} {p' n' h' : Int} {F : List Int} {S : List Shr} (H : gvB h F = false) : JnNo p n h p' n' h' F S 1 := jn_bad (by unfold jnB; rw [H]; simp)
theorem jn_len {p n h : Nat} {p' n' h' : Int} {F : List Int} {S : List Shr} (H : ¬ F.length = S.length) : JnNo p n h p' n' h' F S 1 := jn_bad (by unfold jnB; rw [decide_eq_false H]; simp)
theorem jn_ft {p n h : Nat} {p' n' h' : Int} {F : List Int} {S : List Shr} (H : fitsB p' h' S = false) : JnNo p n h p' n' h' F S 1 := jn_bad (by unfold jnB; rw [H]; simp)
theorem jn_few {p n h : Nat} {p' n' h' : Int} {F : List Int} {S : List Shr} (h1 : toB p p' n' h' = true) (h2 : gvB h F = true) (h3 : F.length = S.length) (h4 : fitsB p' h' S = true) (hl : F.length < n) : JnNo p n h p' n' h' F S 5 :=
  jn_of (by unfold jnE jnB; rw [h1, h2, decide_eq_true h3, h4]; simp [hl]) (by decide)
theorem jn_ok {p n h : Nat} {p' n' h' : Int} {F : List Int} {S : List Shr} (h1 : toB p p' n' h' = true) (h2 : gvB h F = true) (h3 : F.length = S.length) (h4 : fitsB p' h' S = true) (hl : ¬ F.length < n) :
    jnE p n h p' n' h' F S = 0 ∧ jnX p n h p' n' h' F S = hS S 0 ∧ jnV p n h p' n' h' F S = joinV p (wsN p (F.map Int.toNat) 0) (fun i => vN (natL S) i) S.length := by
  have he : jnE p n h p' n' h' F S = 0 := by unfold jnE jnB; rw [h1, h2, decide_eq_true h3, h4]; simp [hl]
  exact ⟨he, by unfold jnX; rw [if_pos he], by unfold jnV; rw [if_pos he]⟩
theorem gv_of {h : Nat} {F : List Int} (H : gvB h F = true) : F = ofN (F.map Int.toNat) ∧ (F.map Int.toNat).Nodup ∧ ∀ x ∈ F.map Int.toNat, 1 ≤ x ∧ x ≤ h := by
  have g : ∀ k, k < F.length → GvAt h F k := @of_decide_eq_true _ (Classical.propDecidable _) H
  have hx : ∀ k (hk : k < F.length), nth F k = F[k] := fun k hk => nth_eq hk
  refine ⟨?_, ?_, fun x hx' => ?_⟩
  · refine List.ext_getElem (by simp [ofN]) fun k h1 h2 => ?_
    have := g k h1
    have e := hx k h1
    simp only [ofN, List.getElem_map]
    have := this.1
    omega
  · rw [List.nodup_iff_pairwise_ne, List.pairwise_iff_getElem]
    intro i j hi hj hij e
    rw [List.length_map] at hi hj
    simp only [List.getElem_map] at e
    have g1 := g i hi
    have g2 := g j hj
    have e1 := hx i hi
    have e2 := hx j hj
    refine g2.2.2 i hij ?_
    have := g1.1
    have := g2.1
    omega
  · obtain ⟨k, hk, rfl⟩ := List.getElem_of_mem hx'
    rw [List.length_map] at hk
    have g1 := g k hk
    have e1 := hx k hk
    have := g1.1
    have := g1.2.1
    simp only [List.getElem_map]
    omega
theorem ft_at {p h : Int} {S : List Shr} (H : fitsB p h S = true) {k : Nat} (hk : k < S.length) : ftE p h (hS S k) (vS S k) (hS S 0) (vS S 0).length = true := by
  unfold fitsB anyN at H
  rw [Bool.not_eq_true', List.any_eq_false] at H
  have := H k (List.mem_range.2 hk)
  simpa using this
theorem ft_no {p h : Int} {S : List Shr} {k : Nat} (hk : k < S.length) (H : ftE p h (hS S k) (vS S k) (hS S 0) (vS S 0).length = false) : fitsB p h S = false := by
  cases hb : fitsB p h S with
  | false => rfl
  | true => rw [ft_at hb hk] at H; cases H
theorem ft_yes {p h : Int} {S : List Shr} (H : ∀ k, k < S.length → ftE p h (hS S k) (vS S k) (hS S 0) (vS S 0).length = true) : fitsB p h S = true := by
  unfold fitsB anyN
  rw [Bool.not_eq_true', List.any_eq_false]
  intro k hk
  rw [H k (List.mem_range.1 hk)]; simp
theorem ft_bd {p h x x0 : Int} {L : List Int} {l0 : Nat} (H : ftE p h x L x0 l0 = true) : stB p h x L = true ∧ x = x0 ∧ L.length = l0 := by
  unfold ftE at H; simpa using H
theorem fits_of {p h' : Nat} {S : List Shr} (H : fitsB p h' S = true) (h1 : 1 ≤ h') (hW : ∀ k, k < S.length → (vS S k).length ≤ 2048) : S = shL (natL S) ∧ ∃ y m, Parts p h' y m (natL S) ∧ m ≤ 2048 ∧ (0 < S.length → (y : Int) = hS S 0 ∧ (vS S 0).length = m) := by
  have key : ∀ k, k < S.length → (1 ≤ hS S k ∧ hS S k ≤ h' ∧ inside (p : Int) (vS S k) = true) ∧ hS S k = hS S 0 ∧ (vS S k).length = (vS S 0).length := fun k hk => by
    obtain ⟨a, b, c⟩ := ft_bd (ft_at H hk)
    exact ⟨stB_bd a, b, c⟩
  have hk0 : ∀ k, k < S.length → hN (natL S) k = (hS S k).toNat ∧ vN (natL S) k = (vS S k).map Int.toNat := fun k hk => by
    simp [hN, vN, natL, natS, hS, vS, List.getD_eq_getElem?_getD, hk]
  refine ⟨?_, ?_⟩
  · refine List.ext_getElem (by rw [shL_len, natL_len]) fun k h1 h2 => ?_
    obtain ⟨⟨a, b, c⟩, -, -⟩ := key k h1
    have e1 : S[k] = (hS S k, vS S k) := by simp [hS, vS, List.getD_eq_getElem?_getD, h1]
    simp only [shL, natL, List.getElem_map, natS, shI]
    rw [e1]
    have e2 := (inside_nat c).1
    simp only
    rw [e2]
    congr 1
    omega
  · rcases Nat.eq_zero_or_pos S.length with h0 | h0
    · exact ⟨1, 0, ⟨fun k hk => by rw [natL_len] at hk; omega, by omega, h1, fun k hk => by rw [natL_len] at hk; omega, fun k hk => by rw [natL_len] at hk; omega⟩, by omega, fun h => by omega⟩
    · obtain ⟨⟨a, b, c⟩, -, -⟩ := key 0 h0
      refine ⟨(hS S 0).toNat, (vS S 0).length, ⟨fun k hk => ?_, by omega, by omega, fun k hk => ?_, fun k hk => ?_⟩, by have := hW 0 h0; exact this, fun _ => ⟨by omega, rfl⟩⟩
      · rw [natL_len] at hk
        rw [(hk0 k hk).1, (key k hk).2.1]
      · rw [natL_len] at hk
        rw [(hk0 k hk).2, List.length_map]; exact (key k hk).2.2
      · rw [natL_len] at hk
        rw [(hk0 k hk).2]; exact (inside_nat (key k hk).1.2.2).2

set_option maxRecDepth 100000 in
set_option maxHeartbeats 4000000 in
theorem join_any {P0 : Nat → Prop} (p n h : Nat) (p' n' h' : Int) (A B : Option Addr) (F : List Int) (S : List Shr) (ca cb : Nat) (w : World) (P : PlanN p n h) (hB : Bases w) (hA : IntsAt w A F) (hS : ShP P0 w B cb S) (hW : ∀ k, k < S.length → (vS S k).length ≤ 2048) (hF : F.length ≤ 16) (hSl : S.length ≤ 1000) :
    Calls Tryd.prog 44 #[planV p n h, planV p' n' h', .slice A F.length ca, .slice B S.length cb] w (NewShrE (jnX p n h p' n' h' F S) (jnV p n h p' n' h' F S) (jnE p n h p' n' h' F S) w) := by
  have hsh : Short S := fun k hk => by have := hW k hk; omega
  have HPL := Lib.hid (fun (W : World) (hb : Below w.heap.size w W) => plans_toB p n h p' n' h' W P (hB.below hb hB.1))
  have HGV := Lib.hid (fun (W : World) (hb : Below w.heap.size w W) => givers_any p n h A ca F W (hA.below hb) (by have := P.h7; omega) (by omega))
  have HFT := Lib.hid (fun (W : World) (hb : Below w.heap.size w W) => fit_any p' n' h' B cb S W (hS.below hb) hsh (by omega))
  cases hto : toB p p' n' h' with
  | false =>
    have J := jn_to (n := n) (h := h) (F := F) (S := S) hto
    rw [J.e, J.x, J.v]
    rw [hto] at HPL
    clear hto J hA hS hsh hW hB P
    go_enter Tryd.func44, Tryd.ntmps44
    go_wp2_with fail
    refine gen_calls fun w1 hw1 => ?_
    have hP : PlanCell w1 w.heap.size p n h := by rw [hw1]; exact ((PlanCell.new _ _ _ rfl).alloc _).alloc _
    have hQ : PlanCell w1 (w.heap.size + 1) p' n' h' := by rw [hw1]; exact (PlanCell.new _ _ _ (by simp)).alloc _
    have hR : ShCell w1 (w.heap.size + 1 + 1) 0 (.slice none 0 0) := by rw [hw1]; exact ShCell.new _ _ (by simp)
    have hb1 : Below w.heap.size w w1 := by rw [hw1]; exact bl_alloc _ (bl_alloc _ (below_alloc _ _))
    clear hw1
    refine ret_below (HPL.out _ hb1) fun w2 hb2 => ?_
    have hbw2 := below_trans hb1 hb2
    have HP2 := Lib.hid (hP.below hb2)
    have HQ2 := Lib.hid (hQ.below hb2)
    have HR2 := Lib.hid (hR.below hb2)
    clear hP hQ hR hb1 hb2
    have s0 := HR2.out.c0
    have s1 := HR2.out.c1
    have f0 := HR2.out.frozen 0
    have f1 := HR2.out.frozen 1
    have hz := hbw2.size
    go_wp2_with fail
    refine bodyPost_ret (results_shr2 rfl _ _ (w.heap.size + 1 + 1) rfl (shcell_fill HR2.out 0 _)) rfl ?_
    exact ⟨none, 0, rfl, NatsAt.nil _ _, SlOK.none0, (fun b off e => by cases e), below_set2 hbw2 (by omega) _ _⟩
  | true =>
    cases hgv : gvB h F with
    | false =>
      have J := jn_gv (p := p) (n := n) (p' := p') (n' := n') (h' := h') (S := S) hgv
      rw [J.e, J.x, J.v]
      rw [hto] at HPL
      rw [hgv] at HGV
      clear hto hgv J hA hS hsh hW hB P
      go_enter Tryd.func44, Tryd.ntmps44
      go_wp2_with fail
      refine gen_calls fun w1 hw1 => ?_
      have hP : PlanCell w1 w.heap.size p n h := by rw [hw1]; exact ((PlanCell.new _ _ _ rfl).alloc _).alloc _
      have hQ : PlanCell w1 (w.heap.size + 1) p' n' h' := by rw [hw1]; exact (PlanCell.new _ _ _ (by simp)).alloc _
      have hR : ShCell w1 (w.heap.size + 1 + 1) 0 (.slice none 0 0) := by rw [hw1]; exact ShCell.new _ _ (by simp)
      have hb1 : Below w.heap.size w w1 := by rw [hw1]; exact bl_alloc _ (bl_alloc _ (below_alloc _ _))
      clear hw1
      refine ret_below (HPL.out _ hb1) fun w2 hb2 => ?_
      have hbw2 := below_trans hb1 hb2
      have HP2 := Lib.hid (hP.below hb2)
      have HQ2 := Lib.hid (hQ.below hb2)
      have HR2 := Lib.hid (hR.below hb2)
      clear hP hQ hR hb1 hb2
      have p02 := HP2.out.c0
      have p12 := HP2.out.c1
      have p22 := HP2.out.c2
      go_wp2_with fail
      refine ret_below (HGV.out _ hbw2) fun w3 hb3 => ?_
      have hbw3 := below_trans hbw2 hb3
      have HP3 := Lib.hid (HP2.out.below hb3)
      have HQ3 := Lib.hid (HQ2.out.below hb3)
      have HR3 := Lib.hid (HR2.out.below hb3)
      clear p02 p12 p22
      have s0 := HR3.out.c0
      have s1 := HR3.out.c1
      have f0 := HR3.out.frozen 0
      have f1 := HR3.out.frozen 1
      have hz := hbw3.size
      go_wp2_with fail
      refine bodyPost_ret (results_shr2 rfl _ _ (w.heap.size + 1 + 1) rfl (shcell_fill HR3.out 0 _)) rfl ?_
      exact ⟨none, 0, rfl, NatsAt.nil _ _, SlOK.none0, (fun b off e => by cases e), below_set2 hbw3 (by omega) _ _⟩
    | true =>
      by_cases hlen : F.length = S.length
      · cases hft : fitsB p' h' S with
        | false =>
          have J := jn_ft (p := p) (n := n) (h := h) (n' := n') (F := F) hft
          rw [J.e, J.x, J.v]
          rw [hto] at HPL
          rw [hgv] at HGV
          rw [hft] at HFT
          rw [hlen] at HGV ⊢
          have t1 : ((S.length : Int) != (S.length : Int)) = false := by simp
          clear hto hgv hft hlen J hA hS hsh hW hB P
          go_enter Tryd.func44, Tryd.ntmps44
          go_wp2_with fail
          refine gen_calls fun w1 hw1 => ?_
          have hP : PlanCell w1 w.heap.size p n h := by rw [hw1]; exact ((PlanCell.new _ _ _ rfl).alloc _).alloc _
          have hQ : PlanCell w1 (w.heap.size + 1) p' n' h' := by rw [hw1]; exact (PlanCell.new _ _ _ (by simp)).alloc _
          have hR : ShCell w1 (w.heap.size + 1 + 1) 0 (.slice none 0 0) := by rw [hw1]; exact ShCell.new _ _ (by simp)
          have hb1 : Below w.heap.size w w1 := by rw [hw1]; exact bl_alloc _ (bl_alloc _ (below_alloc _ _))
          clear hw1
          refine ret_below (HPL.out _ hb1) fun w2 hb2 => ?_
          have hbw2 := below_trans hb1 hb2
          have HP2 := Lib.hid (hP.below hb2)
          have HQ2 := Lib.hid (hQ.below hb2)
          have HR2 := Lib.hid (hR.below hb2)
          clear hP hQ hR hb1 hb2
          have p02 := HP2.out.c0
          have p12 := HP2.out.c1
          have p22 := HP2.out.c2
          go_wp2_with fail
          refine ret_below (HGV.out _ hbw2) fun w3 hb3 => ?_
          have hbw3 := below_trans hbw2 hb3
          have HP3 := Lib.hid (HP2.out.below hb3)
          have HQ3 := Lib.hid (HQ2.out.below hb3)
          have HR3 := Lib.hid (HR2.out.below hb3)
          clear p02 p12 p22
          have q03 := HQ3.out.c0
          have q13 := HQ3.out.c1
          have q23 := HQ3.out.c2
          go_wp2_with fail
          refine ret_below (HFT.out _ hbw3) fun w4 hb4 => ?_
          have hbw4 := below_trans hbw3 hb4
          have HP4 := Lib.hid (HP3.out.below hb4)
          have HQ4 := Lib.hid (HQ3.out.below hb4)
          have HR4 := Lib.hid (HR3.out.below hb4)
          clear q03 q13 q23
          have s0 := HR4.out.c0
          have s1 := HR4.out.c1
          have f0 := HR4.out.frozen 0
          have f1 := HR4.out.frozen 1
          have hz := hbw4.size
          go_wp2_with fail
          refine bodyPost_ret (results_shr2 rfl _ _ (w.heap.size + 1 + 1) rfl (shcell_fill HR4.out 0 _)) rfl ?_
          exact ⟨none, 0, rfl, NatsAt.nil _ _, SlOK.none0, (fun b off e => by cases e), below_set2 hbw4 (by omega) _ _⟩
        | true =>
          obtain ⟨n1, h1, rfl, rfl, rfl, P'⟩ := toB_nat P hto
          obtain ⟨hF1, hF2, hF3⟩ := gv_of hgv
          obtain ⟨hS1, y, m, hp, hm, hy⟩ := fits_of hft (by have := P'.n1; have := P'.nh; omega) hW
          have hA' : NatsAt w A (F.map Int.toNat) := by rw [hF1] at hA; exact hA.nats
          have hS' : ShP P0 w B cb (shL (natL S)) := by rw [← hS1]; exact hS
          by_cases hl : F.length < n
          · have J := jn_few hto hgv hlen hft hl
            rw [J.e, J.x, J.v, ← hlen]
            exact join_few p n h n1 h1 y m F.length A B ca cb (F.map Int.toNat) (natL S) w P P' hB hA' hS' hF2 hF3 hp hm (by simp) (by rw [natL_len, hlen]) hl hF
          · obtain ⟨j1, j2, j3⟩ := jn_ok hto hgv hlen hft hl
            rw [j1, j2, j3, ← hlen]
            have := join_made p n h n1 h1 y m F.length A B ca cb (F.map Int.toNat) (natL S) w P P' hB hA' hS' hF2 hF3 hp hm (by simp) (by rw [natL_len, hlen]) (by omega) hF
            rw [(hy (by have := P.n1; omega)).1] at this
            exact this
      · have J := jn_len (p := p) (n := n) (h := h) (p' := p') (n' := n') (h' := h') hlen
        rw [J.e, J.x, J.v]
        rw [hto] at HPL
        rw [hgv] at HGV
        have t1 : ((S.length : Int) != (F.length : Int)) = true := by simp; omega
        clear hto hgv hlen J hA hS hsh hW hB P
        go_enter Tryd.func44, Tryd.ntmps44
        go_wp2_with fail
        refine gen_calls fun w1 hw1 => ?_
        have hP : PlanCell w1 w.heap.size p n h := by rw [hw1]; exact ((PlanCell.new _ _ _ rfl).alloc _).alloc _
        have hQ : PlanCell w1 (w.heap.size + 1) p' n' h' := by rw [hw1]; exact (PlanCell.new _ _ _ (by simp)).alloc _
        have hR : ShCell w1 (w.heap.size + 1 + 1) 0 (.slice none 0 0) := by rw [hw1]; exact ShCell.new _ _ (by simp)
        have hb1 : Below w.heap.size w w1 := by rw [hw1]; exact bl_alloc _ (bl_alloc _ (below_alloc _ _))
        clear hw1
        refine ret_below (HPL.out _ hb1) fun w2 hb2 => ?_
        have hbw2 := below_trans hb1 hb2
        have HP2 := Lib.hid (hP.below hb2)
        have HQ2 := Lib.hid (hQ.below hb2)
        have HR2 := Lib.hid (hR.below hb2)
        clear hP hQ hR hb1 hb2
        have p02 := HP2.out.c0
        have p12 := HP2.out.c1
        have p22 := HP2.out.c2
        go_wp2_with fail
        refine ret_below (HGV.out _ hbw2) fun w3 hb3 => ?_
        have hbw3 := below_trans hbw2 hb3
        have HP3 := Lib.hid (HP2.out.below hb3)
        have HQ3 := Lib.hid (HQ2.out.below hb3)
        have HR3 := Lib.hid (HR2.out.below hb3)
        clear p02 p12 p22
        have s0 := HR3.out.c0
        have s1 := HR3.out.c1
        have f0 := HR3.out.frozen 0
        have f1 := HR3.out.frozen 1
        have hz := hbw3.size
        go_wp2_with fail
        refine bodyPost_ret (results_shr2 rfl _ _ (w.heap.size + 1 + 1) rfl (shcell_fill HR3.out 0 _)) rfl ?_
        exact ⟨none, 0, rfl, NatsAt.nil _ _, SlOK.none0, (fun b off e => by cases e), below_set2 hbw3 (by omega) _ _⟩
end Go.Proofs.YtlhipgejiacklaaDoor
namespace Go.Proofs.YtlhipgejiacklaaDoor
open Go.RowKit
attribute [local go_sem high] sliced_low

noncomputable def mvE (p n h : Nat) (p' n' h' : Int) (S : List Shr) (good : List Nat) (r : Nat) : Int :=
  if cmE p n h S = 0 then (if toB p p' n' h' = true then (if r < n then 5 else dlE p' n' h' (vS S 0) (ofN good)) else 1) else cmE p n h S
noncomputable def mvL (p n h : Nat) (p' n' h' : Int) (S : List Shr) (good : List Nat) (r : Nat) : List ShN :=
  if mvE p n h p' n' h' S good r = 0 then movedN p n'.toNat h'.toNat (natL S) (List.replicate r good) n else []
theorem mvL_no {p n h : Nat} {p' n' h' : Int} {S : List Shr} {good : List Nat} {r : Nat} {er : Int} (h1 : mvE p n h p' n' h' S good r = er) (h2 : er ≠ 0) : mvL p n h p' n' h' S good r = [] := by
  unfold mvL; rw [if_neg (by rw [h1]; exact h2)]
theorem mv_cm {p n h : Nat} {p' n' h' : Int} {S : List Shr} {good : List Nat} {r : Nat} (H : ¬ cmE p n h S = 0) : mvE p n h p' n' h' S good r = cmE p n h S := by unfold mvE; rw [if_neg H]
theorem mv_to {p n h : Nat} {p' n' h' : Int} {S : List Shr} {good : List Nat} {r : Nat} (H : cmE p n h S = 0) (G : toB p p' n' h' = false) : mvE p n h p' n' h' S good r = 1 := by unfold mvE; rw [if_pos H, G]; rfl
theorem mv_few {p n h : Nat} {p' n' h' : Int} {S : List Shr} {good : List Nat} {r : Nat} (H : cmE p n h S = 0) (G : toB p p' n' h' = true) (K : r < n) : mvE p n h p' n' h' S good r = 5 := by unfold mvE; rw [if_pos H, if_pos G, if_pos K]
theorem mv_dl {p n h : Nat} {p' n' h' : Int} {S : List Shr} {good : List Nat} {r : Nat} (H : cmE p n h S = 0) (G : toB p p' n' h' = true) (K : ¬ r < n) : mvE p n h p' n' h' S good r = dlE p' n' h' (vS S 0) (ofN good) := by unfold mvE; rw [if_pos H, if_pos G, if_neg K]
theorem cm_of {p n h : Nat} {S : List Shr} (H : cmE p n h S = 0) : gdB p h S = true ∧ n ≤ S.length := by
  unfold cmE at H
  split at H
  · split at H
    · split at H
      · cases H
      · rename_i _ h1 h2; exact ⟨h1, by omega⟩
    · cases H
  · cases H
theorem rep_getD {r i : Nat} {x : List Nat} (hi : i < r) : (List.replicate r x).getD i [] = x := by simp [List.getD_eq_getElem?_getD, hi]
theorem dl_len {p n h : Nat} {sec : List Int} {ran : List Nat} (H : dlE p n h sec (ofN ran) = 0) (hn : 1 ≤ n) : ran.length = sec.length * (n - 1) := by
  unfold dlE at H
  split at H
  · split at H
    · cases H
    · split at H
      · rename_i _ _ h3
        have := h3.2.2
        rw [len_ofN, show ((n : Int) - 1) = ((n - 1 : Nat) : Int) by omega, ← Int.natCast_mul] at this
        omega
      · cases H
  · cases H

set_option maxRecDepth 100000 in
set_option maxHeartbeats 8000000 in
theorem move_bad {P0 P1 : Nat → Prop} (p n h n1 h1 : Nat) (A RA : Option Addr) (c rc r : Nat) (S : List Shr) (good : List Nat) (w : World) (P : PlanN p n h) (P' : PlanN p n1 h1) (hB : Bases w) (hA : ShP P0 w A c S) (hR : LstP P1 w RA rc (List.replicate r good)) (hW : ∀ k, k < S.length → (vS S k).length ≤ 64) (hl : S.length ≤ 16) (hgl : good.length ≤ 1000) (hr : r ≤ 1000) (hcm : cmE p n h S = 0) (hrn : ¬ r < n) (hd : ¬ dlE p n1 h1 (vS S 0) (ofN good) = 0) :
    Calls Tryd.prog 46 #[planV p n h, planV p n1 h1, .slice A S.length c, .slice RA r rc] w (ShErr [] (dlE p n1 h1 (vS S 0) (ofN good)) w) := by
  have hsh : Short S := fun k hk => by have := hW k hk; omega
  have HCK := Lib.hid (fun (W : World) (hb : Below w.heap.size w W) => check_anyS p n h A c S W (hB.below hb hB.1) (hA.below hb) hsh (by omega))
  have HPL := Lib.hid (fun (W : World) (hb : Below w.heap.size w W) => plans_toB p n h p n1 h1 W P (hB.below hb hB.1))
  rw [hcm] at HCK
  rw [toB_eq P'.pl] at HPL
  obtain ⟨hgd, hnS⟩ := cm_of hcm
  have hst : stB p h (hS S 0) (vS S 0) = true := ((gdB_of hgd) 0 (by have := P.n1; omega)).st
  have hw0 := hW 0 (by have := P.n1; omega)
  have HSP := Lib.hid (fun (W : World) (hb : Below w.heap.size w W) (B C : Option Addr) (cb cc : Nat) (hI : IntsAt W B (vS S 0)) (hRI : IntsAt W C (ofN good)) (hok : IOK C cc (ofN good).length) => split_any p n h p n1 h1 (hS S 0) B C (vS S 0) (ofN good) cb cc W P (hB.below hb hB.1) hI hRI hok (by omega) (by rw [len_ofN]; omega))
  rw [(sp_ok (toB_eq P'.pl) hst).1, (sp_ok (toB_eq P'.pl) hst).2] at HSP
  have hdL : dlL p n1 h1 (vS S 0) (ofN good) = [] := dlL_no hd
  rw [hdL] at HSP
  have HA := Lib.hid hA
  have HR := Lib.hid hR
  have hn1 := P.n1
  have hcap := hA.ok.len
  have hh1 := P'.h7
  have t5 : (dlE p n1 h1 (vS S 0) (ofN good) != 0) = true := by simp [hd]
  have hrn' : ¬ (r : Int) < (n : Int) := by omega
  have hrd : decide ((r : Int) < (n : Int)) = false := decide_eq_false hrn'
  generalize dlE p n1 h1 (vS S 0) (ofN good) = de at *
  clear hA hR hsh hgd hst hdL hcm hd P P' hB
  go_enter Tryd.func46, Tryd.ntmps46
  go_wp2_with fail
  refine gen_calls fun w1 hw1 => ?_
  have hP : PlanCell w1 w.heap.size p n h := by rw [hw1]; exact (PlanCell.new _ _ _ rfl).alloc _
  have hQ : PlanCell w1 (w.heap.size + 1) p n1 h1 := by rw [hw1]; exact PlanCell.new _ _ _ (by simp)
  have hb1 : Below w.heap.size w w1 := by rw [hw1]; exact bl_alloc _ (below_alloc _ _)
  clear hw1
  refine ret_below (HCK.out _ hb1) fun w2 hb2 => ?_
  have hbw2 := below_trans hb1 hb2
  have HP2 := Lib.hid (hP.below hb2)
  have HQ2 := Lib.hid (hQ.below hb2)
  have p0 := HP2.out.c0
  have p1 := HP2.out.c1
  have p2 := HP2.out.c2
  have q0 := HQ2.out.c0
  have q1 := HQ2.out.c1
  have q2 := HQ2.out.c2
  clear hP hQ hb1 hb2
  go_wp2_with fail
  refine ret_below (HPL.out _ hbw2) fun w3 hb3 => ?_
  have hbw3 := below_trans hbw2 hb3
  have HP3 := Lib.hid (HP2.out.below hb3)
  have HQ3 := Lib.hid (HQ2.out.below hb3)
  clear p0 p1 p2 q0 q1 q2 HCK HPL HP2 HQ2 hb3 hbw2
  have p03 := HP3.out.c0
  have p13 := HP3.out.c1
  have p23 := HP3.out.c2
  have q03 := HQ3.out.c0
  have q13 := HQ3.out.c1
  have q23 := HQ3.out.c2
  have i0 : (n : Int) ≤ (c : Int) := by omega
  have i1 : (0 : Int) ≤ (n : Int) := by omega
  go_wp2_with (at_make; refine make_shs rfl _ _ rfl h1 rfl rfl rfl (by omega) ?_; intro w4 hg4 hb4)
  have HB4 := Lib.hid hb4
  clear hg4 hb4
  go_loopw [49] (fun i wr => ∃ k : Nat, k = 0 ∧ i = .int .i64 k ∧ Below w3.heap.size w3 wr) (fun i _ => n - (intOf i).toNat)
  case atStart => exact ⟨0, rfl, rfl, HB4.out⟩
  case round =>
    obtain ⟨k, hk0, rfl, hbr⟩ := hrel
    have HK0 := Lib.hid hk0
    have hbw := below_trans hbw3 hbr
    have hkn : k < n := by omega
    have hkS : k < S.length := by omega
    obtain ⟨b1', o1, B1, c1, rfl, hb1, -, x0, x1, hX⟩ := (HA.out.below hbw).at_ k hkS
    obtain ⟨b2, o2, B2, c2, rfl, hb2, -, u0, hU, hUI⟩ := (HR.out.below hbw).at_ k (show k < (List.replicate r good).length by simp; omega)
    rw [rep_getD (by omega)] at u0 hU hUI
    have hk00 : hS S k = hS S 0 := by rw [HK0.out]
    have hk01 : vS S k = vS S 0 := by rw [HK0.out]
    rw [hk00] at x0
    rw [hk01] at x1 hX
    have HSP2 := Lib.hid (fun (W : World) (hb : Below wr.heap.size wr W) => HSP.out W (below_trans hbw hb) B1 B2 c1 c2 (hX.ints.below hb) (hUI.ints.below hb) (by rw [len_ofN]; exact hU.iok))
    rw [len_ofN] at HSP2
    generalize hS S 0 = x at *
    generalize vS S 0 = L at *
    have hP := HP3.out.below hbr
    have hQ := HQ3.out.below hbr
    have p0' := hP.c0
    have p1' := hP.c1
    have p2' := hP.c2
    have q0' := hQ.c0
    have q1' := hQ.c1
    have q2' := hQ.c2
    have lq' := hQ.lt
    have lpr := hP.lt
    have j0 : (0 : Int) ≤ (k : Int) := by omega
    have j1 : (k : Int) < (n : Int) := by omega
    have j2 : (k : Int) < (r : Int) := by omega
    clear hX hU hUI hP hQ p03 p13 p23 q03 q13 q23 hk00 hk01 hk0 HSP
    go_wp2_with fail
    refine gen_world fun w7 hw7 => ?_
    have hsc : ShCell w7 wr.heap.size x (.slice B1 L.length c1) := by rw [hw7]; exact ShCell.new _ _ rfl
    have hb7 : Below wr.heap.size wr w7 := by rw [hw7]; exact below_alloc _ _
    have v0 := hsc.c0
    have v1 := hsc.c1
    have lg7 := hsc.lt
    have hz7 := hb7.size
    have lp7 : w.heap.size < w7.heap.size := by omega
    have lz7 : w.heap.size + 1 < w7.heap.size := by omega
    have lb7 : b2 < w7.heap.size := by omega
    have y0 := (hb7.cell (p := ⟨w.heap.size, 0, none⟩) lpr).trans p0'
    have y1 := (hb7.cell (p := ⟨w.heap.size, 1, none⟩) lpr).trans p1'
    have y2 := (hb7.cell (p := ⟨w.heap.size, 2, none⟩) lpr).trans p2'
    have y3 := (hb7.cell (p := ⟨w.heap.size + 1, 0, none⟩) lq').trans q0'
    have y4 := (hb7.cell (p := ⟨w.heap.size + 1, 1, none⟩) lq').trans q1'
    have y5 := (hb7.cell (p := ⟨w.heap.size + 1, 2, none⟩) lq').trans q2'
    have u0 := (hb7.cell (p := ⟨b2, o2 + k, none⟩) hb2).trans u0
    clear hw7 hsc p0' p1' p2' q0' q1' q2' x0 x1
    go_region_held3 (fun w' => w'.cell? ⟨w.heap.size, 0, none⟩ = some (.int .i64 (p : Int)) ∧ w'.cell? ⟨w.heap.size, 1, none⟩ = some (.int .i64 (n : Int)) ∧ w'.cell? ⟨w.heap.size, 2, none⟩ = some (.int .i64 (h : Int)) ∧ w'.cell? ⟨w.heap.size + 1, 0, none⟩ = some (.int .i64 (p : Int)) ∧ w'.cell? ⟨w.heap.size + 1, 1, none⟩ = some (.int .i64 (n1 : Int)) ∧ w'.cell? ⟨w.heap.size + 1, 2, none⟩ = some (.int .i64 (h1 : Int)) ∧ w'.cell? ⟨wr.heap.size, 0, none⟩ = some (.int .i64 x) ∧ w'.cell? ⟨wr.heap.size, 1, none⟩ = some (.slice B1 L.length c1) ∧ w'.cell? ⟨b2, o2 + k, none⟩ = some (.slice B2 good.length c2)) (first | go_keep)
      (first | (go_at_call 42; refine (HSP2.out _ (below_trans hb7 (by (repeat (first | exact bl_refl _ | apply bl_drew | apply bl_alloc))))).mono ?_; rintro e w8 ⟨DA, dc, rfl, -, hb8'⟩; have hb8 : Below w7.heap.size w7 w8 := (by first | exact below_undrew1 hb8' | exact hb8'); have s0 := (hb8.cell (p := ⟨w.heap.size, 0, none⟩) lp7).trans y0; have s1 := (hb8.cell (p := ⟨w.heap.size, 1, none⟩) lp7).trans y1; have s2 := (hb8.cell (p := ⟨w.heap.size, 2, none⟩) lp7).trans y2; have s3 := (hb8.cell (p := ⟨w.heap.size + 1, 0, none⟩) lz7).trans y3; have s4 := (hb8.cell (p := ⟨w.heap.size + 1, 1, none⟩) lz7).trans y4; have s5 := (hb8.cell (p := ⟨w.heap.size + 1, 2, none⟩) lz7).trans y5; have s6 := (hb8.cell (p := ⟨wr.heap.size, 0, none⟩) lg7).trans v0; have s7 := (hb8.cell (p := ⟨wr.heap.size, 1, none⟩) lg7).trans v1; have s8 := (hb8.cell (p := ⟨b2, o2 + k, none⟩) lb7).trans u0))
    all_goals
      have HBX := Lib.hid (below_trans hbw (below_trans hb7 hb8))
      clear hb8' hb8 s0 s1 s2 s3 s4 s5 s6 s7 s8 y0 y1 y2 y3 y4 y5 u0 v0 v1
      go_wp2_with fail
      go_ret2
      exact ShErr.nil _ HBX.out

set_option maxRecDepth 100000 in
set_option maxHeartbeats 8000000 in
theorem move_any {P0 P1 : Nat → Prop} (p n h : Nat) (p' n' h' : Int) (A RA : Option Addr) (c rc r : Nat) (S : List Shr) (good : List Nat) (w : World) (P : PlanN p n h) (hB : Bases w) (hA : ShP P0 w A c S) (hR : LstP P1 w RA rc (List.replicate r good)) (hW : ∀ k, k < S.length → (vS S k).length ≤ 64) (hl : S.length ≤ 16) (hgl : good.length ≤ 1000) (hgp : ∀ x ∈ good, x < p) (hr : r ≤ 1000) :
    Calls Tryd.prog 46 #[planV p n h, planV p' n' h', .slice A S.length c, .slice RA r rc] w (ShErr (shL (mvL p n h p' n' h' S good r)) (mvE p n h p' n' h' S good r) w) := by
  have hsh : Short S := fun k hk => by have := hW k hk; omega
  have HCK := Lib.hid (fun (W : World) (hb : Below w.heap.size w W) => check_anyS p n h A c S W (hB.below hb hB.1) (hA.below hb) hsh (by omega))
  have HPL := Lib.hid (fun (W : World) (hb : Below w.heap.size w W) => plans_toB p n h p' n' h' W P (hB.below hb hB.1))
  by_cases hcm : cmE p n h S = 0
  · cases hto : toB p p' n' h' with
    | false =>
      have e := mv_to (good := good) (r := r) hcm hto
      rw [mvL_no e (by decide), e]
      rw [hcm] at HCK
      rw [hto] at HPL
      clear e hcm hto hA hR hW hsh hgp P hB
      go_enter Tryd.func46, Tryd.ntmps46
      go_wp2_with fail
      refine gen_calls fun w1 hw1 => ?_
      have hP : PlanCell w1 w.heap.size p n h := by rw [hw1]; exact (PlanCell.new _ _ _ rfl).alloc _
      have hQ : PlanCell w1 (w.heap.size + 1) p' n' h' := by rw [hw1]; exact PlanCell.new _ _ _ (by simp)
      have hb1 : Below w.heap.size w w1 := by rw [hw1]; exact bl_alloc _ (below_alloc _ _)
      clear hw1
      refine ret_below (HCK.out _ hb1) fun w2 hb2 => ?_
      have hbw2 := below_trans hb1 hb2
      have HP2 := Lib.hid (hP.below hb2)
      have HQ2 := Lib.hid (hQ.below hb2)
      have p0 := HP2.out.c0
      have p1 := HP2.out.c1
      have p2 := HP2.out.c2
      have q0 := HQ2.out.c0
      have q1 := HQ2.out.c1
      have q2 := HQ2.out.c2
      clear hP hQ hb1 hb2
      go_wp2_with fail
      refine ret_below (HPL.out _ hbw2) fun w3 hb3 => ?_
      have hbw3 := below_trans hbw2 hb3
      have HP3 := Lib.hid (HP2.out.below hb3)
      have HQ3 := Lib.hid (HQ2.out.below hb3)
      clear p0 p1 p2 q0 q1 q2
      go_wp2_with fail
      go_ret2
      exact ShErr.nil _ hbw3
    | true =>
      by_cases hrn : r < n
      · have e := mv_few (good := good) hcm hto hrn
        rw [mvL_no e (by decide), e]
        rw [hcm] at HCK
        rw [hto] at HPL
        have hrn' : (r : Int) < (n : Int) := by omega
        have hrd : decide ((r : Int) < (n : Int)) = true := decide_eq_true hrn'
        clear e hcm hto hA hR hW hsh hgp P hB
        go_enter Tryd.func46, Tryd.ntmps46
        go_wp2_with fail
        refine gen_calls fun w1 hw1 => ?_
        have hP : PlanCell w1 w.heap.size p n h := by rw [hw1]; exact (PlanCell.new _ _ _ rfl).alloc _
        have hQ : PlanCell w1 (w.heap.size + 1) p' n' h' := by rw [hw1]; exact PlanCell.new _ _ _ (by simp)
        have hb1 : Below w.heap.size w w1 := by rw [hw1]; exact bl_alloc _ (below_alloc _ _)
        clear hw1
        refine ret_below (HCK.out _ hb1) fun w2 hb2 => ?_
        have hbw2 := below_trans hb1 hb2
        have HP2 := Lib.hid (hP.below hb2)
        have HQ2 := Lib.hid (hQ.below hb2)
        have p0 := HP2.out.c0
        have p1 := HP2.out.c1
        have p2 := HP2.out.c2
        have q0 := HQ2.out.c0
        have q1 := HQ2.out.c1
        have q2 := HQ2.out.c2
        clear hP hQ hb1 hb2
        go_wp2_with fail
        refine ret_below (HPL.out _ hbw2) fun w3 hb3 => ?_
        have hbw3 := below_trans hbw2 hb3
        have HP3 := Lib.hid (HP2.out.below hb3)
        have HQ3 := Lib.hid (HQ2.out.below hb3)
        clear p0 p1 p2 q0 q1 q2
        have p03 := HP3.out.c0
        have p13 := HP3.out.c1
        have p23 := HP3.out.c2
        have q03 := HQ3.out.c0
        have q13 := HQ3.out.c1
        have q23 := HQ3.out.c2
        go_wp2_with fail
        go_ret2
        exact ShErr.nil _ hbw3
      · have e := mv_dl (good := good) hcm hto hrn
        obtain ⟨n1, h1, rfl, rfl, rfl, P'⟩ := toB_nat P hto
        obtain ⟨hgd, hnS⟩ := cm_of hcm
        obtain ⟨hSn, g0⟩ := gd_nat (gdB_of hgd)
        have hS0 : 0 < S.length := by have := P.n1; omega
        have hv0 : (vN (natL S) 0).length = (vS S 0).length := by simp [vN, vS, natL, natS, List.getD_eq_getElem?_getD, hS0]
        have g : GoodW p h (vS S 0).length (natL S) := by rw [← hv0]; exact g0.wide
        have hm0 : (vS S 0).length ≤ 64 := hW 0 hS0
        have hA' : ShP P0 w A c (shL (natL S)) := by rw [← hSn]; exact hA
        by_cases hd : dlE p n1 h1 (vS S 0) (ofN good) = 0
        · have e0 := e.trans hd
          have hrs : Rands p n1 (vS S 0).length n (List.replicate r good) := ⟨fun i hi => by rw [rep_getD (by omega)]; exact dl_len hd P'.n1, fun i hi => by rw [rep_getD (by omega)]; exact hgp⟩
          have eL : mvL p n h p n1 h1 S good r = movedN p n1 h1 (natL S) (List.replicate r good) n := by unfold mvL; rw [if_pos e0]; simp
          rw [eL, e0]
          refine (move_good p n h n1 h1 A RA c rc S.length r (vS S 0).length (natL S) (List.replicate r good) w P P' hB g hm0 hA' hR (by rw [natL_len]; exact hnS) (by rw [natL_len]; exact hl) (natL_len S).symm (by simp) (by simp; omega) (by simp; omega) hrs).mono ?_
          rintro e w' ⟨A', c', rfl, h1', h2'⟩
          exact ⟨A', c', by rw [shL_len, movedN_len], h1', h2'⟩
        · rw [mvL_no e hd, e]
          exact move_bad p n h n1 h1 A RA c rc r S good w P P' hB hA hR hW hl hgl hr hcm hrn hd
  · have e := mv_cm (p' := p') (n' := n') (h' := h') (good := good) (r := r) hcm
    rw [mvL_no e hcm, e]
    have t1 : (cmE p n h S != 0) = true := by simp [hcm]
    generalize cmE p n h S = ce at *
    clear e hcm hA hR hW hsh hgp P hB
    go_enter Tryd.func46, Tryd.ntmps46
    go_wp2_with fail
    refine gen_calls fun w1 hw1 => ?_
    have hP : PlanCell w1 w.heap.size p n h := by rw [hw1]; exact (PlanCell.new _ _ _ rfl).alloc _
    have hQ : PlanCell w1 (w.heap.size + 1) p' n' h' := by rw [hw1]; exact PlanCell.new _ _ _ (by simp)
    have hb1 : Below w.heap.size w w1 := by rw [hw1]; exact bl_alloc _ (below_alloc _ _)
    clear hw1
    refine ret_below (HCK.out _ hb1) fun w2 hb2 => ?_
    have hbw2 := below_trans hb1 hb2
    go_wp2_with fail
    go_ret2
    exact ShErr.nil _ hbw2
end Go.Proofs.YtlhipgejiacklaaDoor
