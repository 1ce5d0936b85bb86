/-
  Products of small primes, and large primes times small ones, in the kernel.
-/
import Derived.Test.YthbablmgpjjphaaDoorMrC
namespace Go.Proofs.YthbablmgpjjphaaDoor

theorem ex_prime : ∀ m : Nat, 2 ≤ m → ∃ p, PrimeN p ∧ p ∣ m := by
  intro m
  induction m using Nat.strongRecOn with
  | ind m ih =>
    intro hm
    by_cases hp : PrimeN m
    · exact ⟨m, hp, Nat.dvd_refl m⟩
    · have : ∃ d, d ∣ m ∧ d ≠ 1 ∧ d ≠ m := by
        refine Classical.byContradiction fun hn => hp ⟨hm, fun d hd => ?_⟩
        by_cases h1 : d = 1
        · exact .inl h1
        · by_cases h2 : d = m
          · exact .inr h2
          · exact absurd ⟨d, hd, h1, h2⟩ hn
      obtain ⟨d, hd, h1, h2⟩ := this
      have hle := Nat.le_of_dvd (by omega) hd
      have hd0 : d ≠ 0 := fun e => by subst e; have := Nat.eq_zero_of_zero_dvd hd; omega
      obtain ⟨p, hp, hpd⟩ := ih d (by omega) (by omega)
      exact ⟨p, hp, Nat.dvd_trans hpd hd⟩
/-- T holds of all products n * m up to N, m of primes in l. -/
noncomputable def dfs (T : Nat → Bool) (N : Nat) (k : Nat) : Nat → List Nat → Bool :=
  @Nat.rec (fun _ => Nat → List Nat → Bool) (fun _ _ => false)
    (fun _ F n l => @List.rec Nat (fun _ => Bool) true (fun q rest ih => frc (Nat.mul n q) fun m => @Bool.rec (fun _ => Bool) (bnd (T m) (bnd (F m (List.cons q rest)) ih)) true (Nat.blt N m)) l) k
theorem dfs_cons (T : Nat → Bool) (N k n q : Nat) (rest : List Nat) : dfs T N (k + 1) n (q :: rest) = @Bool.rec (fun _ => Bool) (bnd (T (n * q)) (bnd (dfs T N k (n * q) (q :: rest)) (dfs T N (k + 1) n rest))) true (Nat.blt N (n * q)) := rfl
theorem dfs_at {T : Nat → Bool} {N : Nat} : ∀ k n l, dfs T N k n l = true → 0 < n → l.Pairwise (· ≤ ·) → ∀ m, 2 ≤ m → (∀ q, PrimeN q → q ∣ m → q ∈ l) → n * m ≤ N → T (n * m) = true
  | 0, n, l, h => by cases (show false = true from h)
  | k + 1, n, [], h => by
    intro hn hs m hm hq
    obtain ⟨p, hp, hd⟩ := ex_prime m hm
    cases hq p hp hd
  | k + 1, n, q :: rest, h => by
    intro hn hs m hm hq hN
    rw [dfs_cons] at h
    rw [List.pairwise_cons] at hs
    have hqm : q ≤ m := by
      obtain ⟨p, hp, hd⟩ := ex_prime m hm
      have h1 := Nat.le_of_dvd (by omega) hd
      rcases List.mem_cons.1 (hq p hp hd) with e | e
      · omega
      · have := hs.1 p e; omega
    have hb : Nat.blt N (n * q) = false := by
      have := Nat.mul_le_mul_left n hqm
      cases hbb : Nat.blt N (n * q) with
      | false => rfl
      | true => rw [Nat.blt_eq] at hbb; omega
    rw [hb] at h
    have h : bnd (T (n * q)) (bnd (dfs T N k (n * q) (q :: rest)) (dfs T N (k + 1) n rest)) = true := h
    rw [bnd_iff, bnd_iff] at h
    obtain ⟨h1, h2, h3⟩ := h
    by_cases hd : q ∣ m
    · obtain ⟨m', rfl⟩ := hd
      have hq0 : 0 < q := by
        rcases Nat.eq_zero_or_pos q with e | e
        · subst e; omega
        · exact e
      rw [← Nat.mul_assoc]
      by_cases hm1 : m' = 1
      · rw [hm1, Nat.mul_one]; exact h1
      · refine dfs_at k (n * q) (q :: rest) h2 (Nat.mul_pos hn hq0) (List.pairwise_cons.2 hs) m' ?_ (fun p hp hd => hq p hp (Nat.dvd_trans hd (Nat.dvd_mul_left m' q))) (by rw [Nat.mul_assoc]; exact hN)
        rcases Nat.eq_zero_or_pos m' with e | e
        · subst e; omega
        · omega
    · refine dfs_at (k + 1) n rest h3 hn hs.2 m hm (fun p hp hpd => ?_) hN
      rcases List.mem_cons.1 (hq p hp hpd) with e | e
      · subst e; exact absurd hpd hd
      · exact e
/-- The same from each prime of the list on. -/
def AllS (T : Nat → Bool) (N k : Nat) : List Nat → Prop
  | [] => True
  | q :: rest => dfs T N k q (q :: rest) = true ∧ AllS T N k rest
theorem AllS.at {T : Nat → Bool} {N k : Nat} : ∀ {l : List Nat}, AllS T N k l → l.Pairwise (· ≤ ·) → ∀ m, 2 ≤ m → (∀ q, PrimeN q → q ∣ m → q ∈ l) → m ≤ N → m ∈ l ∨ T m = true
  | [], _, _, m, hm, hq, _ => by
    obtain ⟨p, hp, hd⟩ := ex_prime m hm
    cases hq p hp hd
  | q :: rest, h, hs, m, hm, hq, hN => by
    by_cases hd : q ∣ m
    · obtain ⟨m', rfl⟩ := hd
      by_cases hm1 : m' = 1
      · left; rw [hm1, Nat.mul_one]; simp
      · right
        have hq0 : 0 < q := by
          rcases Nat.eq_zero_or_pos q with e | e
          · subst e; omega
          · exact e
        refine dfs_at k q (q :: rest) h.1 hq0 hs m' ?_ (fun p hp hd => hq p hp (Nat.dvd_trans hd (Nat.dvd_mul_left m' q))) hN
        rcases Nat.eq_zero_or_pos m' with e | e
        · subst e; omega
        · omega
    · rcases AllS.at h.2 (List.pairwise_cons.1 hs).2 m hm (fun p hp hpd => by
        rcases List.mem_cons.1 (hq p hp hpd) with e | e
        · subst e; exact absurd hpd hd
        · exact e) hN with h1 | h1
      · left; simp [h1]
      · exact .inr h1
/-! ### A large prime times a small number -/
noncomputable def podd (lo n : Nat) : Nat := @Nat.rec (fun _ => Nat) 1 (fun i ih => Nat.mul (Nat.succ (Nat.add lo (Nat.mul 2 i))) ih) n
noncomputable def podds (n : Nat) : Nat := @Nat.rec (fun _ => Nat) 1 (fun b ih => Nat.mul (podd (Nat.mul 1024 b) 512) ih) n
noncomputable def PP : Nat := podds 32
theorem podd_no {r lo : Nat} (hr : PrimeN r) : ∀ n, lo + 2 * n ≤ r → ¬ r ∣ podd lo n
  | 0, _, h => by
    have h : r ∣ 1 := h
    have := Nat.le_of_dvd (by omega) h; have := hr.1; omega
  | n + 1, hl, h => by
    have h : r ∣ (lo + 2 * n + 1) * podd lo n := h
    rcases hr.euclid h with h | h
    · have := Nat.le_of_dvd (by omega) h; omega
    · exact podd_no hr n (by omega) h
theorem podds_no {r : Nat} (hr : PrimeN r) : ∀ n, 1024 * n ≤ r → ¬ r ∣ podds n
  | 0, _, h => by
    have h : r ∣ 1 := h
    have := Nat.le_of_dvd (by omega) h; have := hr.1; omega
  | n + 1, hl, h => by
    have h : r ∣ podd (1024 * n) 512 * podds n := h
    rcases hr.euclid h with h | h
    · exact podd_no hr 512 (by omega) h
    · exact podds_no hr n (by omega) h
noncomputable def gA (e : Nat) : Nat := Nat.gcd (Nat.gcd (Nat.sub (Nat.pow 2 e) 1) (Nat.sub (Nat.pow 3 e) 1)) (Nat.gcd (Nat.sub (Nat.pow 5 e) 1) (Nat.sub (Nat.pow 7 e) 1))
noncomputable def strp (P g : Nat) : Nat := Nat.div g (Nat.gcd g P)
noncomputable def endA (s h : Nat) : Bool := bor (Nat.beq h 1) (bnd (Nat.blt 0 h) (bnd (Nat.blt h 65536) (tstQ (Nat.mul h s))))
noncomputable def chkA (P s : Nat) : Bool := frc (Nat.sub s 1) fun e => frc (gA e) fun g => frc (strp P g) fun g => frc (strp P g) fun g => frc (strp P g) fun g => endA s g
theorem strp_dvd {r P g : Nat} (hr : PrimeN r) (hP : ¬ r ∣ P) (h : r ∣ g) : r ∣ strp P g := by
  have e : g = Nat.gcd g P * strp P g := (Nat.mul_div_cancel' (Nat.gcd_dvd_left g P)).symm
  rcases hr.euclid (e ▸ h) with h1 | h1
  · exact absurd (Nat.dvd_trans h1 (Nat.gcd_dvd_right g P)) hP
  · exact h1
theorem pred_dvd {a r s : Nat} (hr : PrimeN r) (ha : 2 ≤ a) (har : a < r) (hs : 2 ≤ s) (hsr : s < r) (h : a ^ (r * s - 1) % (r * s) = 1) : r ∣ Nat.sub (Nat.pow a (s - 1)) 1 := by
  have h1 : a ^ (r * s - 1) % r = 1 := by
    rw [← Nat.mod_mul_right_mod _ r s, h]; exact Nat.mod_eq_of_lt (by omega)
  have h2 := pow_mod_one (flt hr (fun e => by have := Nat.le_of_dvd (by omega) e; omega)) h1 (by omega)
  have e : (r * s - 1) % (r - 1) = s - 1 := by
    have e : r * s - 1 = (s - 1) + (r - 1) * s := by
      rw [Nat.sub_mul]; have := Nat.mul_le_mul_right s (show 1 ≤ r by omega); omega
    rw [e, Nat.add_mul_mod_self_left, Nat.mod_eq_of_lt (by omega)]
  rw [e] at h2
  refine Nat.dvd_of_mod_eq_zero ?_
  exact Nat.sub_mod_eq_zero_of_mod_eq (by rw [show Nat.pow a (s - 1) = a ^ (s - 1) from rfl, h2, Nat.mod_eq_of_lt (by omega)])
theorem chkA_no {r s : Nat} (hr : PrimeN r) (hbig : 32768 ≤ r) (hs : 2 ≤ s) (hsr : s < r) (h : chkA PP s = true) (hp : Pass4 (r * s)) : False := by
  have hP : ¬ r ∣ PP := podds_no hr 32 (by omega)
  unfold chkA at h
  rw [frc_eq, frc_eq, frc_eq, frc_eq, frc_eq] at h
  have hg : r ∣ gA (Nat.sub s 1) := by
    unfold gA
    exact Nat.dvd_gcd (Nat.dvd_gcd (pred_dvd hr (by omega) (by omega) hs hsr hp.f2) (pred_dvd hr (by omega) (by omega) hs hsr hp.f3)) (Nat.dvd_gcd (pred_dvd hr (by omega) (by omega) hs hsr hp.f5) (pred_dvd hr (by omega) (by omega) hs hsr hp.f7))
  have hd := strp_dvd hr hP (strp_dvd hr hP (strp_dvd hr hP hg))
  generalize strp PP (strp PP (strp PP (gA (Nat.sub s 1)))) = g at *
  unfold endA at h
  rw [bor_iff, bnd_iff, bnd_iff] at h
  rcases h with h | ⟨h0, h1, h2⟩
  · have h : g = 1 := Nat.eq_of_beq_eq_true h
    subst h
    have := Nat.le_of_dvd (by omega) hd; omega
  · rw [Nat.blt_eq] at h0 h1
    obtain ⟨c, rfl⟩ := hd
    have hc : c = 1 := by
      rcases Nat.lt_or_ge c 2 with h | h
      · rcases Nat.eq_zero_or_pos c with e | e
        · subst e; omega
        · omega
      · have := Nat.mul_le_mul_left r h; omega
    subst hc
    rw [Nat.mul_one] at h2
    exact tstQ_no hp h2
end Go.Proofs.YthbablmgpjjphaaDoor
