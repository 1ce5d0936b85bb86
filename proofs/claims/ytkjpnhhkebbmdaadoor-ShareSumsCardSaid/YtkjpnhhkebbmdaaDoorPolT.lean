/-
  Polynomials: the one through points, as the program and as the document make it; division. Plain, no program in sight.
-/
import Derived.Test.YtkjpnhhkebbmdaaDoorPolN
namespace Go.Proofs.YtkjpnhhkebbmdaaDoor

/-! ### Through points -/
theorem thN_len (p : Nat) (xs ys : List Nat) : (thN p xs ys).length ≤ xs.length := by
  unfold thN; rw [shN_len]; have := dgN_le (nwN p xs ys xs.length).1; have := (nwN_len p xs ys xs.length).1; omega
theorem thN_lt {p : Nat} (hp : 1 ≤ p) (xs ys : List Nat) : ∀ c ∈ thN p xs ys, c < p := shN_lt (nwN_lt hp xs ys _).1
theorem thN_at {p : Nat} (hp : PrimeN p) {xs : List Nat} (hx : ∀ y ∈ xs, y < p) (hn : xs.Nodup) {ys : List Nat} (hy : ∀ y ∈ ys, y < p) {j : Nat} (hj : j < xs.length) :
    evN p (thN p xs ys) (nthN xs j) = nthN ys j := by
  have hp1 : 1 ≤ p := by have := hp.1; omega
  unfold thN
  rw [evN_nth hp1 (shN_nth _)]
  exact Cg.nat (p := p) ((cg_ev p _ _).trans (nwN_at hp hx hn hy _ (Nat.le_refl _) j hj)) (evN_lt hp1 _ _) (nthN_lt hp1 hy j)
/-- A short polynomial with the values is the one through the points. -/
theorem thN_uniq {p : Nat} (hp : PrimeN p) {xs : List Nat} (hx : ∀ y ∈ xs, y < p) (hn : xs.Nodup) {ys : List Nat} (hy : ∀ y ∈ ys, y < p) {L : List Nat} (hl : L.length ≤ xs.length) (hLp : ∀ c ∈ L, c < p)
    (he : ∀ j, j < xs.length → evN p L (nthN xs j) = nthN ys j) : ∀ k, nthN (thN p xs ys) k = nthN L k := by
  have hp1 : 1 ≤ p := by have := hp.1; omega
  exact uniqN hp hx hn (thN_len p xs ys) hl (thN_lt hp1 xs ys) hLp fun j hj => by rw [thN_at hp hx hn hy hj, he j hj]
theorem thN_short (p : Nat) (xs ys : List Nat) : shN (thN p xs ys) = thN p xs ys := shN_ext (fun k => shN_nth _ k) |>.trans rfl
theorem thN_eq {p : Nat} (hp : PrimeN p) {xs : List Nat} (hx : ∀ y ∈ xs, y < p) (hn : xs.Nodup) {ys : List Nat} (hy : ∀ y ∈ ys, y < p) {L : List Nat} (hl : L.length ≤ xs.length) (hLp : ∀ c ∈ L, c < p)
    (he : ∀ j, j < xs.length → evN p L (nthN xs j) = nthN ys j) : thN p xs ys = shN L := by
  rw [← thN_short]; exact shN_ext (thN_uniq hp hx hn hy hl hLp he)

/-- The document's: the polynomial that is 0 at all other places. -/
def oneN (p i : Nat) (xs : List Nat) : Nat → List Nat
  | 0 => [fone p]
  | n + 1 => if n = i then oneN p i xs n else mulN p (oneN p i xs n) [fsub p 0 (nthN xs n), fone p]
theorem oneN_lt {p : Nat} (hp : 1 ≤ p) (i : Nat) (xs : List Nat) : ∀ n, ∀ c ∈ oneN p i xs n, c < p
  | 0 => by intro c hc; simp [oneN] at hc; rw [hc]; exact fone_lt hp
  | n + 1 => by
    simp only [oneN]; split
    · exact oneN_lt hp i xs n
    · exact mulN_lt hp _ _
theorem oneN_len (p i : Nat) (xs : List Nat) : ∀ n, (oneN p i xs n).length ≤ if i < n then n else n + 1
  | 0 => by simp [oneN]
  | n + 1 => by
    have ih := oneN_len p i xs n
    by_cases h : n = i
    · simp only [oneN, if_pos h]; rw [if_neg (by omega)] at ih; rw [if_pos (by omega)]; exact ih
    · simp only [oneN, if_neg h]
      have hm := mulN_len p (oneN p i xs n) [fsub p 0 (nthN xs n), fone p]
      simp at hm
      by_cases h2 : i < n
      · rw [if_pos h2] at ih; rw [if_pos (by omega)]; omega
      · rw [if_neg h2] at ih; rw [if_neg (by omega)]; omega
theorem lin1_eval {p : Nat} (y : Nat) (hy : y ≤ p) (x : Int) : Cg p (evalZ (ofN [fsub p 0 y, fone p]) x) (x - y) := by
  have e : evalZ (ofN [fsub p 0 y, fone p]) x = (fsub p 0 y : Nat) + x * (fone p : Nat) := by simp [ofN, evalZ]
  rw [e]
  exact ((cg_sub p 0 _ hy).add ((Cg.refl p x).mul (cg_one p))).trans (.of_eq (by omega))
theorem oneN_eval {p : Nat} (hp : 1 ≤ p) (i : Nat) {xs : List Nat} (hx : ∀ y ∈ xs, y < p) (x : Int) : ∀ n, Cg p (evalZ (ofN (oneN p i xs n)) x) (prodE i n fun k => x - (nthN xs k : Nat))
  | 0 => (Cg.of_eq (by simp [oneN, ofN, evalZ])).trans (cg_one p)
  | n + 1 => by
    have ih := oneN_eval hp i hx x n
    by_cases h : n = i
    · simp only [oneN, prodE, if_pos h]; exact ih
    · simp only [oneN, prodE, if_neg h]
      exact (mul_eval p _ _ x hp).trans (ih.mul (lin1_eval _ (Nat.le_of_lt (nthN_lt hp hx n)) x))
def rfN (p : Nat) (xs ys : List Nat) : Nat → List Nat
  | 0 => List.replicate xs.length 0
  | i + 1 => (List.range xs.length).map fun k => fadd p (nthN (rfN p xs ys i) k) (fmul p (fmul p (nthN (oneN p i xs xs.length) k) (invV p (topN p i (nthN xs i) xs xs.length))) (nthN ys i))
theorem rfN_len (p : Nat) (xs ys : List Nat) : ∀ i, (rfN p xs ys i).length = xs.length
  | 0 => by simp [rfN]
  | i + 1 => by simp [rfN]
theorem rfN_lt {p : Nat} (hp : 1 ≤ p) (xs ys : List Nat) : ∀ i, ∀ c ∈ rfN p xs ys i, c < p
  | 0 => by intro c hc; simp [rfN] at hc; omega
  | i + 1 => by
    intro c hc
    obtain ⟨k, _, rfl⟩ := List.mem_map.1 hc
    exact fadd_lt hp _ _
theorem rfN_nth (p : Nat) (xs ys : List Nat) (i k : Nat) (hk : k < xs.length) : nthN (rfN p xs ys (i + 1)) k = fadd p (nthN (rfN p xs ys i) k) (fmul p (fmul p (nthN (oneN p i xs xs.length) k) (invV p (topN p i (nthN xs i) xs xs.length))) (nthN ys i)) := by
  rw [nthN_eq (by rw [rfN_len]; exact hk)]; simp [rfN]
theorem rfN_eval {p : Nat} (hp : 1 ≤ p) {xs : List Nat} (hx : ∀ y ∈ xs, y < p) (ys : List Nat) (x : Int) : ∀ i, i ≤ xs.length →
    Cg p (evalZ (ofN (rfN p xs ys i)) x) (sumI i fun j => prodE j xs.length (fun k => x - (nthN xs k : Nat)) * (invV p (topN p j (nthN xs j) xs xs.length) : Nat) * (nthN ys j : Nat))
  | 0, _ => by
    rw [evalZ_sum x _ xs.length (by rw [rfN_len]; exact Nat.le_refl _)]
    exact sumI_zero _ fun k hk => .of_eq (by simp [rfN, nthN, List.getD_eq_getElem?_getD, hk])
  | i + 1, hi => by
    have ih := rfN_eval hp hx ys x i (by omega)
    rw [evalZ_sum x _ xs.length (by rw [rfN_len]; exact Nat.le_refl _)] at ih
    rw [evalZ_sum x _ xs.length (by rw [rfN_len]; exact Nat.le_refl _)]
    have ho := oneN_eval hp i hx x xs.length
    have hol := oneN_len p i xs xs.length
    rw [if_pos (by omega)] at hol
    rw [evalZ_sum x _ xs.length hol] at ho
    have h2 : Cg p (sumI xs.length fun n => (nthN (rfN p xs ys (i + 1)) n : Int) * x ^ n)
        (sumI xs.length fun n => (nthN (rfN p xs ys i) n : Int) * x ^ n + ((invV p (topN p i (nthN xs i) xs xs.length) : Nat) * (nthN ys i : Int)) * ((nthN (oneN p i xs xs.length) n : Int) * x ^ n)) := by
      refine sumI_cg _ fun k hk => ?_
      rw [rfN_nth p xs ys i k hk]
      have h3 := (cg_add p (nthN (rfN p xs ys i) k) (fmul p (fmul p (nthN (oneN p i xs xs.length) k) (invV p (topN p i (nthN xs i) xs xs.length))) (nthN ys i))).trans ((Cg.refl p _).add ((cg_mul p _ _).trans ((cg_mul p _ _).mul (Cg.refl p _))))
      exact (h3.mul (Cg.refl p _)).trans (.of_eq (by grind))
    rw [sumI_add, sumI_mul] at h2
    refine h2.trans ?_
    simp only [sumI]
    exact ih.add (((Cg.refl p _).mul ho).trans (.of_eq (by grind)))
/-- The document's polynomial is the program's. -/
theorem th_ref {p : Nat} (hp : PrimeN p) {xs : List Nat} (hx : ∀ y ∈ xs, y < p) (hn : xs.Nodup) {ys : List Nat} (hy : ∀ y ∈ ys, y < p) : thN p xs ys = shN (rfN p xs ys xs.length) := by
  have hp1 : 1 ≤ p := by have := hp.1; omega
  refine thN_eq hp hx hn hy (by rw [rfN_len]; exact Nat.le_refl _) (rfN_lt hp1 xs ys _) fun j hj => ?_
  refine Cg.nat (p := p) ((cg_ev p _ _).trans ((rfN_eval hp1 hx ys _ _ (Nat.le_refl _)).trans ?_)) (evN_lt hp1 _ _) (nthN_lt hp1 hy j)
  refine (sumI_one j _ hj (fun k hk hkj => ?_)).trans ?_
  · have h0 := prodE_zero (p := p) (i := k) (f := fun m => ((nthN xs j : Nat) : Int) - (nthN xs m : Nat)) xs.length j hj (by omega) (Cg.of_eq (by omega))
    exact ((h0.mul (Cg.refl p _)).mul (Cg.refl p _)).trans (.of_eq (by simp))
  · exact ((inv_below hp hx hn hj).mul (Cg.refl p _)).trans (.of_eq (by simp))
/-- A polynomial comes back from its points. -/
theorem th_back {p : Nat} (hp : PrimeN p) {xs : List Nat} (hx : ∀ y ∈ xs, y < p) (hn : xs.Nodup) {ys : List Nat} (hy : ∀ y ∈ ys, y < p) {L : List Nat} (hl : L.length ≤ xs.length) (hLp : ∀ c ∈ L, c < p)
    (he : ∀ j, j < xs.length → nthN ys j = evN p L (nthN xs j)) : thN p xs ys = shN L := thN_eq hp hx hn hy hl hLp fun j hj => (he j hj).symm

/-! ### Division -/
def stN (p : Nat) (b : List Nat) (d c m : Nat) (r : List Nat) : List Nat :=
  (List.range r.length).map fun j => if m ≤ j ∧ j ≤ m + d then fsub p (nthN r j) (fmul p c (nthN b (j - m))) else nthN r j
theorem stN_len (p : Nat) (b : List Nat) (d c m : Nat) (r : List Nat) : (stN p b d c m r).length = r.length := by simp [stN]
theorem stN_nth (p : Nat) (b : List Nat) (d c m : Nat) (r : List Nat) {j : Nat} (hj : j < r.length) : nthN (stN p b d c m r) j = if m ≤ j ∧ j ≤ m + d then fsub p (nthN r j) (fmul p c (nthN b (j - m))) else nthN r j := by
  rw [nthN_eq (by rw [stN_len]; exact hj)]; simp [stN]
theorem stN_in (p : Nat) (b : List Nat) (d c m : Nat) (r : List Nat) {j : Nat} (hj : j < r.length) (h : m ≤ j ∧ j ≤ m + d) : nthN (stN p b d c m r) j = fsub p (nthN r j) (fmul p c (nthN b (j - m))) := by
  rw [stN_nth p b d c m r hj, if_pos h]
theorem stN_out (p : Nat) (b : List Nat) (d c m : Nat) (r : List Nat) {j : Nat} (h : ¬ (m ≤ j ∧ j ≤ m + d)) : nthN (stN p b d c m r) j = nthN r j := by
  by_cases hj : j < r.length
  · rw [stN_nth p b d c m r hj, if_neg h]
  · rw [nthN_ge (by rw [stN_len]; omega), nthN_ge (by omega)]
theorem stN_lt {p : Nat} (hp : 1 ≤ p) (b : List Nat) (d c m : Nat) {r : List Nat} (hr : ∀ x ∈ r, x < p) : ∀ x ∈ stN p b d c m r, x < p := by
  intro x hx
  obtain ⟨j, hj, rfl⟩ := List.mem_map.1 hx
  split
  · exact fsub_lt hp _ _
  · exact nthN_lt hp hr j
def cN (p inv d : Nat) (r : List Nat) (m : Nat) : Nat := fmul p (nthN r (m + d)) inv
/-- The last m steps of a division. -/
def dvN (p : Nat) (b : List Nat) (d inv : Nat) : Nat → List Nat → List Nat → List Nat × List Nat
  | 0, r, q => (r, q)
  | m + 1, r, q => dvN p b d inv m (stN p b d (cN p inv d r m) m r) (q.set m (cN p inv d r m))
theorem fsub_zero {p x : Nat} (hx : x < p) : fsub p x 0 = x := by unfold fsub; rw [Nat.sub_zero, Nat.add_mod_right, Nat.mod_eq_of_lt hx]
theorem fmul_zero (p x : Nat) : fmul p 0 x = 0 := by unfold fmul; simp
theorem stN_zero {p : Nat} (hp : 1 ≤ p) (b : List Nat) (d m : Nat) {r : List Nat} (hr : ∀ x ∈ r, x < p) : stN p b d 0 m r = r := by
  refine extN (stN_len _ _ _ _ _ _) fun k hk => ?_
  rw [stN_len] at hk
  rw [stN_nth p b d 0 m r hk]
  split
  · rw [fmul_zero, fsub_zero (nthN_lt hp hr k)]
  · rfl
theorem set_zero {q : List Nat} {m : Nat} (h : nthN q m = 0) : q.set m 0 = q := by
  refine extN (by simp) fun k hk => ?_
  by_cases e : m = k
  · subst e; rw [nthN_set_same _ _ _ (by simpa using hk), h]
  · rw [nthN_set_other _ _ _ _ e]
/-- Steps at places that hold 0 change nothing. -/
theorem dvN_skip {p : Nat} (hp : 1 ≤ p) (b : List Nat) (d inv : Nat) {r q : List Nat} (hr : ∀ x ∈ r, x < p) (m1 : Nat) : ∀ m, m1 ≤ m → (∀ k, m1 + d ≤ k → nthN r k = 0) → (∀ k, k < m → nthN q k = 0) →
    dvN p b d inv m r q = dvN p b d inv m1 r q
  | 0, h, _, _ => by rw [show m1 = 0 by omega]
  | m + 1, h, hz, hq => by
    by_cases e : m1 = m + 1
    · rw [e]
    · have hc : cN p inv d r m = 0 := by unfold cN; rw [hz (m + d) (by omega), fmul_zero]
      show dvN p b d inv m (stN p b d (cN p inv d r m) m r) (q.set m (cN p inv d r m)) = _
      rw [hc, stN_zero hp b d m hr, set_zero (hq m (by omega))]
      exact dvN_skip hp b d inv hr m1 m (by omega) hz (fun k hk => hq k (by omega))
/-- The place of a step holds 0 after it. -/
theorem stN_top {p : Nat} (hp : PrimeN p) {b : List Nat} {d : Nat} (hb : ∀ x ∈ b, x < p) (hd : nthN b d ≠ 0) {r : List Nat} (hr : ∀ x ∈ r, x < p) {m : Nat} (hm : m + d < r.length) :
    nthN (stN p b d (cN p (invV p (nthN b d)) d r m) m r) (m + d) = 0 := by
  have hp1 : 1 ≤ p := by have := hp.1; omega
  have hbd : ¬ Cg p (nthN b d : Nat) 0 := fun h => hd (Cg.zero_nat h (nthN_lt hp1 hb d))
  rw [stN_in p b d _ m r hm ⟨by omega, by omega⟩, show m + d - m = d by omega]
  refine Cg.zero_nat (p := p) ?_ (fsub_lt hp1 _ _)
  refine (cg_sub p _ _ (Nat.le_of_lt (fmul_lt hp1 _ _))).trans ?_
  rw [invV_of_ne hbd]
  have h1 := (cg_mul p (cN p (finv p (nthN b d)) d r m) (nthN b d)).trans ((cg_mul p (nthN r (m + d)) (finv p (nthN b d))).mul (Cg.refl p _))
  have h2 := (Cg.refl p (nthN r (m + d) : Int)).mul (cg_inv hp hbd)
  exact ((Cg.refl p _).sub (h1.trans ((Cg.of_eq (by grind)).trans h2))).trans (.of_eq (by omega))
theorem dvN_len (p : Nat) (b : List Nat) (d inv : Nat) : ∀ (m : Nat) (r q : List Nat), (dvN p b d inv m r q).1.length = r.length ∧ (dvN p b d inv m r q).2.length = q.length
  | 0, _, _ => ⟨rfl, rfl⟩
  | m + 1, r, q => by
    have ih := dvN_len p b d inv m (stN p b d (cN p inv d r m) m r) (q.set m (cN p inv d r m))
    rw [stN_len, List.length_set] at ih; exact ih
theorem set_lt {p : Nat} {q : List Nat} (hq : ∀ x ∈ q, x < p) {c : Nat} (hc : c < p) (m : Nat) : ∀ x ∈ q.set m c, x < p := fun x hx => by
  rcases List.mem_or_eq_of_mem_set hx with h | h
  · exact hq x h
  · rw [h]; exact hc
theorem dvN_lt {p : Nat} (hp : 1 ≤ p) (b : List Nat) (d inv : Nat) : ∀ (m : Nat) (r q : List Nat), (∀ x ∈ r, x < p) → (∀ x ∈ q, x < p) → (∀ x ∈ (dvN p b d inv m r q).1, x < p) ∧ ∀ x ∈ (dvN p b d inv m r q).2, x < p
  | 0, _, _, hr, hq => ⟨hr, hq⟩
  | m + 1, r, q, hr, hq => dvN_lt hp b d inv m _ _ (stN_lt hp b d _ m hr) (set_lt hq (fmul_lt hp _ _) m)
theorem sumI_upd {f g : Nat → Int} (m : Nat) : ∀ N, m < N → (∀ k, k < N → k ≠ m → g k = f k) → sumI N g = sumI N f + (g m - f m)
  | 0, h, _ => absurd h (by omega)
  | N + 1, h, he => by
    simp only [sumI]
    by_cases e : m = N
    · subst e
      rw [sumI_ext m (fun k hk => he k (by omega) (by omega))]; omega
    · rw [sumI_upd m N (by omega) (fun k hk => he k (by omega)), he N (by omega) (by omega)]; omega
/-- What a division leaves: the quotient's product with the divisor and the rest are the dividend; the rest is short. -/
theorem dvN_spec {p : Nat} (hp : PrimeN p) {b : List Nat} {d : Nat} (hb : ∀ x ∈ b, x < p) (hd : nthN b d ≠ 0) (hbz : ∀ k, d < k → nthN b k = 0) (T : Nat → Int) :
    ∀ (m : Nat) (r q : List Nat), (∀ x ∈ r, x < p) → m ≤ q.length → (m = 0 ∨ m + d ≤ r.length) → (∀ k, m + d ≤ k → nthN r k = 0) → (∀ k, k < m → nthN q k = 0) →
      (∀ n, Cg p (sumI q.length (cvI q b n) + (nthN r n : Int)) (T n)) →
      (∀ n, Cg p (sumI q.length (cvI (dvN p b d (invV p (nthN b d)) m r q).2 b n) + (nthN (dvN p b d (invV p (nthN b d)) m r q).1 n : Int)) (T n)) ∧ ∀ k, d ≤ k → nthN (dvN p b d (invV p (nthN b d)) m r q).1 k = 0
  | 0, r, q, _, _, _, hz, _, hT => ⟨hT, fun k hk => hz k (by omega)⟩
  | m + 1, r, q, hr, hmq, hmr, hz, hq, hT => by
    have hp1 : 1 ≤ p := by have := hp.1; omega
    have hc := fmul_lt hp1 (nthN r (m + d)) (invV p (nthN b d))
    have key := dvN_spec hp hb hd hbz T m (stN p b d (cN p (invV p (nthN b d)) d r m) m r) (q.set m (cN p (invV p (nthN b d)) d r m)) (stN_lt hp1 b d _ m hr) (by simp; omega) (.inr (by rw [stN_len]; omega))
      (fun k hk => by
        by_cases e : k = m + d
        · subst e; exact stN_top hp hb hd hr (by omega)
        · rw [stN_out p b d _ m r (by omega)]; exact hz k (by omega))
      (fun k hk => by rw [nthN_set_other _ _ _ _ (by omega)]; exact hq k (by omega))
      (fun n => by
        refine Cg.trans ?_ (hT n)
        rw [List.length_set]
        have hs := sumI_upd (f := cvI q b n) (g := cvI (q.set m (cN p (invV p (nthN b d)) d r m)) b n) m q.length (by omega) (fun k _ hk => by
          unfold cvI; rw [nthN_set_other _ _ _ _ (by omega)])
        rw [hs]
        have e0 : cvI q b n m = 0 := by unfold cvI; rw [hq m (by omega)]; split <;> simp
        have e1 : cvI (q.set m (cN p (invV p (nthN b d)) d r m)) b n m = if m ≤ n then (cN p (invV p (nthN b d)) d r m : Int) * (nthN b (n - m) : Int) else 0 := by
          unfold cvI; rw [nthN_set_same _ _ _ (by omega)]
        rw [e0, e1]
        by_cases h1 : m ≤ n ∧ n ≤ m + d
        · rw [if_pos h1.1, stN_in p b d _ m r (by omega) h1]
          have h2 := (cg_sub p (nthN r n) _ (Nat.le_of_lt (fmul_lt hp1 (cN p (invV p (nthN b d)) d r m) (nthN b (n - m))))).trans ((Cg.refl p _).sub (cg_mul p _ _))
          exact ((Cg.refl p _).add h2).trans (.of_eq (by omega))
        · rw [stN_out p b d _ m r h1]
          by_cases h2 : m ≤ n
          · rw [if_pos h2, hbz (n - m) (by omega)]; exact .of_eq (by simp)
          · rw [if_neg h2]; exact .of_eq (by simp))
    rw [List.length_set] at key
    exact key
theorem sumI_past {f : Nat → Int} (n : Nat) : ∀ N, n ≤ N → (∀ k, n ≤ k → k < N → f k = 0) → sumI N f = sumI n f
  | 0, h, _ => by rw [show n = 0 by omega]
  | N + 1, h, hz => by
    by_cases e : n = N + 1
    · rw [e]
    · simp only [sumI]; rw [sumI_past n N (by omega) (fun k h1 h2 => hz k h1 (by omega)), hz N (by omega) (by omega)]; omega
theorem cvI_nth {a a' b : List Nat} (h : ∀ k, nthN a k = nthN a' k) (n : Nat) : cvI a b n = cvI a' b n := by
  funext j; unfold cvI; rw [h j]
/-- A product depends on the coefficients alone. -/
theorem mulN_short {p : Nat} (hp : 1 ≤ p) (q b : List Nat) (n : Nat) : Cg p (nthN (mulN p (shN q) b) n : Nat) (sumI q.length (cvI q b n)) := by
  rw [mulN_nth p _ b n hp]
  refine (cfN_cg p _ b n _).trans (.of_eq ?_)
  rw [cvI_nth (shN_nth q) n, shN_len]
  refine (sumI_past (dgN q) q.length (dgN_le q) fun k h1 _ => ?_).symm
  unfold cvI; rw [dgN_above q k h1]; split <;> simp
theorem divides {p : Nat} (hp : PrimeN p) {a b : List Nat} (ha : ∀ x ∈ a, x < p) (hb : ∀ x ∈ b, x < p) {d : Nat} (hd : nthN b d ≠ 0) (hbz : ∀ k, d < k → nthN b k = 0)
    {r q : List Nat} (h : dvN p b d (invV p (nthN b d)) (a.length - d) a (List.replicate (a.length - d) 0) = (r, q)) :
    shN (linN p (mulN p (shN q) b) (shN r) (fone p)) = shN a ∧ dgN r ≤ d := by
  have hp1 : 1 ≤ p := by have := hp.1; omega
  have hz0 : ∀ k, nthN (List.replicate (a.length - d) 0) k = 0 := fun k => by
    by_cases hk : k < a.length - d
    · simp [nthN, List.getD_eq_getElem?_getD, hk]
    · exact nthN_ge (by simp; omega)
  have key := dvN_spec hp hb hd hbz (fun n => (nthN a n : Int)) (a.length - d) a (List.replicate (a.length - d) 0) ha (by simp) (by omega) (fun k hk => nthN_ge (by omega)) (fun k _ => hz0 k) (fun n => by
    have : sumI (List.replicate (a.length - d) 0).length (cvI (List.replicate (a.length - d) 0) b n) = sumI (List.replicate (a.length - d) 0).length fun k => 0 * 0 :=
      sumI_ext _ fun k _ => by unfold cvI; rw [hz0 k]; split <;> simp
    rw [this, sumI_mul]; exact .of_eq (by omega))
  have hl := dvN_len p b d (invV p (nthN b d)) (a.length - d) a (List.replicate (a.length - d) 0)
  have hlt := dvN_lt hp1 b d (invV p (nthN b d)) (a.length - d) a (List.replicate (a.length - d) 0) ha (fun x hx => by rw [List.mem_replicate] at hx; omega)
  rw [h] at key hl hlt
  obtain ⟨key, hr0⟩ := key
  obtain ⟨hl1, hl2⟩ := hl
  simp only at key hr0 hl1 hl2
  rw [← hl2] at key
  refine ⟨shN_ext fun n => ?_, dgN_lt_of hr0⟩
  refine Cg.nat (p := p) ?_ (nthN_lt hp1 (linN_lt hp1) n) (nthN_lt hp1 ha n)
  have hcg : Cg p ((nthN (mulN p (shN q) b) n : Int) + (nthN r n : Int)) (nthN a n : Int) := ((mulN_short hp1 q b n).add (Cg.refl p _)).trans (key n)
  refine Cg.trans ?_ hcg
  by_cases hn : n < max (mulN p (shN q) b).length (shN r).length
  · rw [linN_nth hn, shN_nth]
    exact (cg_add p _ _).trans ((Cg.refl p _).add ((cg_mul p _ _).trans (((cg_one p).mul (Cg.refl p _)).trans (.of_eq (by simp)))))
  · have e1 : nthN (mulN p (shN q) b) n = 0 := nthN_ge (by omega)
    have e2 : nthN r n = 0 := by rw [← shN_nth]; exact nthN_ge (by omega)
    rw [nthN_ge (by rw [linN_len]; omega), e1, e2]; exact .of_eq (by simp)
end Go.Proofs.YtkjpnhhkebbmdaaDoor
