/-
  All multiples of a prime, in the kernel.
-/
import Derived.Test.YthbablmgpjjphaaDoorMrB
namespace Go.Proofs.YthbablmgpjjphaaDoor

/-- The number r * s does not pass. -/
noncomputable def cand (r s : Nat) : Bool := frc s fun s => @Bool.rec (fun _ => Bool) true (frc (Nat.mul r s) tstQ) (Nat.beq (Nat.gcd s 105) 1)
theorem cand_no {r s : Nat} (h : cand r s = true) (hp : Pass4 (r * s)) : False := by
  unfold cand at h
  rw [frc_eq, frc_eq] at h
  have h1 : Nat.Coprime 105 (r * s) := ((hp.c3.mul_right hp.c5).mul_right hp.c7).symm
  have h2 : Nat.gcd s 105 = 1 := (h1.symm.coprime_dvd_left (Nat.dvd_mul_left s r))
  rw [h2] at h
  exact tstQ_no hp h
/-- The numbers r * (1 + t * L), b < t <= b + n, do not pass. -/
noncomputable def blk (r L b n : Nat) : Bool := @Nat.rec (fun _ => Bool) true (fun t ih => bnd (cand r (Nat.succ (Nat.mul (Nat.add b (Nat.succ t)) L))) ih) n
theorem blk_at {r L b : Nat} : ∀ n, blk r L b n = true → ∀ t, b < t → t ≤ b + n → cand r (t * L + 1) = true
  | 0, _, t, h1, h2 => absurd h1 (by omega)
  | n + 1, h, t, h1, h2 => by
    have e : blk r L b (n + 1) = bnd (cand r ((b + (n + 1)) * L + 1)) (blk r L b n) := rfl
    rw [e, bnd_iff] at h
    by_cases ht : t = b + (n + 1)
    · subst ht; exact h.1
    · exact blk_at n h.2 t h1 (by omega)
noncomputable def blks (r L n : Nat) : Bool := @Nat.rec (fun _ => Bool) true (fun b ih => bnd (frc (Nat.mul 100 b) fun b => blk r L b 100) ih) n
theorem blks_at {r L : Nat} : ∀ n, blks r L n = true → ∀ t, 0 < t → t ≤ 100 * n → cand r (t * L + 1) = true
  | 0, _, t, h1, h2 => absurd h1 (by omega)
  | n + 1, h, t, h1, h2 => by
    have e : blks r L (n + 1) = bnd (blk r L (100 * n) 100) (blks r L n) := rfl
    rw [e, bnd_iff] at h
    by_cases ht : 100 * n < t
    · exact blk_at 100 h.1 t ht (by omega)
    · exact blks_at n h.2 t h1 (by omega)
/-! ### One prime -/
def smallP : List Nat := [2, 3, 5, 7, 11, 13, 17, 19, 23, 29, 31, 37, 41, 43, 47, 53, 59, 61, 67, 71, 73, 79, 83, 89, 97, 101, 103, 107, 109, 113, 127, 131, 137, 139, 149, 151, 157, 163, 167, 173, 179, 181]
def P181 : Nat := 5397346292805549782720214077673687806275517530364350655459511599582614290
theorem P181_eq : prodL smallP = P181 := by decide +kernel
noncomputable def chkL (r L : Nat) : Bool := frc L fun L => bnd (ordOK r L) (blks r L (Nat.succ (Nat.div (Nat.div (Nat.div 1073741824 r) L) 100)))
noncomputable def chkP (r : Nat) : Bool := bor (chkL r (Nat.div (Nat.sub r 1) 4)) (bor (chkL r (Nat.div (Nat.sub r 1) 3)) (bor (chkL r (Nat.div (Nat.sub r 1) 2)) (chkL r (Nat.sub r 1))))
noncomputable def chk (r : Nat) : Bool := @Bool.rec (fun _ => Bool) true (chkP r) (Nat.beq (Nat.gcd r P181) 1)
theorem chkL_no {r L s : Nat} (hr : PrimeN r) (h181 : 181 < r) (h : chkL r L = true) (hs : 2 ≤ s) (hp : Pass4 (r * s)) : False := by
  unfold chkL at h
  rw [frc_eq, bnd_iff] at h
  obtain ⟨ho, hb⟩ := h
  have hcop : ∀ a, 2 ≤ a → a < r → a ^ (r - 1) % r = 1 := fun a h1 h2 => flt hr (fun e => by have := Nat.le_of_dvd (by omega) e; omega)
  have h1 := ordOK_dvd (by omega) ho (k := r - 1) ⟨hcop 2 (by omega) (by omega), hcop 3 (by omega) (by omega), hcop 5 (by omega) (by omega), hcop 7 (by omega) (by omega)⟩
  have hdn : ∀ a, a ^ (r * s - 1) % (r * s) = 1 → a ^ (r * s - 1) % r = 1 := fun a h => by
    rw [← Nat.mod_mul_right_mod _ r s, h]; exact Nat.mod_eq_of_lt (by omega)
  have h2 := ordOK_dvd (by omega) ho (k := r * s - 1) ⟨hdn 2 hp.f2, hdn 3 hp.f3, hdn 5 hp.f5, hdn 7 hp.f7⟩
  have hrs : r * s - 1 = (r - 1) * s + (s - 1) := by
    rw [Nat.sub_mul]; have := Nat.mul_le_mul_right s (show 1 ≤ r by omega); omega
  rw [hrs] at h2
  have h3 : L ∣ s - 1 := (Nat.dvd_add_right (Nat.dvd_trans h1 (Nat.dvd_mul_right _ _))).1 h2
  obtain ⟨t, ht⟩ := h3
  have hL : 0 < L := by
    rcases Nat.eq_zero_or_pos L with e | e
    · subst e; omega
    · exact e
  have ht0 : 0 < t := by
    rcases Nat.eq_zero_or_pos t with e | e
    · subst e; omega
    · exact e
  have hhi := hp.hi
  have ht1 : t ≤ 1073741824 / r / L := by
    rw [Nat.le_div_iff_mul_le hL, Nat.le_div_iff_mul_le (by omega)]
    have : t * L * r ≤ r * s := by
      rw [Nat.mul_comm t L, ← ht, Nat.mul_comm]; exact Nat.mul_le_mul_left r (by omega)
    omega
  have hT := blks_at _ hb t ht0 (show t ≤ 100 * Nat.succ (1073741824 / r / L / 100) by omega)
  rw [show t * L + 1 = s by rw [Nat.mul_comm, ← ht]; omega] at hT
  exact cand_no hT hp
theorem chk_no {r s : Nat} (hr : PrimeN r) (h181 : 181 < r) (h : chk r = true) (hs : 2 ≤ s) (hp : Pass4 (r * s)) : False := by
  have hnd : ¬ r ∣ P181 := by
    rw [← P181_eq]
    refine prime_prodL hr smallP (fun x hx hd => ?_)
    have h1 : ∀ x ∈ smallP, 0 < x ∧ x ≤ 181 := by decide +kernel
    obtain ⟨h2, h3⟩ := h1 x hx
    have := Nat.le_of_dvd h2 hd; omega
  have hg : Nat.gcd r P181 = 1 := hr.coprime hnd
  unfold chk at h
  rw [hg] at h
  have h : chkP r = true := h
  unfold chkP at h
  simp only [bor_iff] at h
  rcases h with h | h | h | h <;> exact chkL_no hr h181 h hs hp
/-- All odd r with lo < r <= lo + 2 n (lo even). -/
noncomputable def chks (lo n : Nat) : Bool := @Nat.rec (fun _ => Bool) true (fun i ih => bnd (frc (Nat.succ (Nat.add lo (Nat.mul 2 i))) chk) ih) n
theorem chks_at {lo : Nat} : ∀ n, chks lo n = true → ∀ i, i < n → chk (lo + 2 * i + 1) = true
  | 0, _, i, h => absurd h (by omega)
  | n + 1, h, i, h1 => by
    have e : chks lo (n + 1) = bnd (chk (lo + 2 * n + 1)) (chks lo n) := rfl
    rw [e, bnd_iff] at h
    by_cases hi : i = n
    · subst hi; exact h.1
    · exact chks_at n h.2 i (by omega)
end Go.Proofs.YthbablmgpjjphaaDoor
