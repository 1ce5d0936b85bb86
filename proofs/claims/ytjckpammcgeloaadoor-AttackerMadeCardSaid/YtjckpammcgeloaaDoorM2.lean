/-
  Polynomials: the one through points, as the program and as the document make it; division. Plain, no program in sight.
  Polynomials: the library's walk of a list from its end; values and degrees.
  Polynomials: the program's values and degrees.
  Polynomials: the program's degrees; copies; polynomials without the zeros at their end.
  Polynomials: copies; polynomials without the zeros at their end, by the program and by the document; the document's values and degrees.
  Polynomials: the document's values, degrees, and polynomials without the zeros at their end.
  Polynomials: products, by the program and by the document.
  Polynomials: products by the document; which places are different, by the program (a map) and by the document.
  Polynomials: weights of places, by the program.
  Polynomials: weights of places and values between points, by the document.
  Polynomials: the one through points, by the program.
  Dice and lists while a statement runs; appends to rows of the own; elements of dice.
  Fields: the test of Miller and Rabin, which primes are permitted; inverses and powers.
  Fields: which primes are permitted; inverses and powers.
  Which numbers are prime by the document, which lists are of elements.
  Every prime passes the program's test.
  Shares: what lists of shares are in memory; plans; which lists are of elements.
  Shares: which ones stand in a plan, which lists are good.
  Shares: which lists are good.
  Shares: which lists are good, by the document.
  Conditions: those that each theorem names.
-/
import Derived.Test.YtjckpammcgeloaaDoorM1
import Derived.RangeFuncNested
import Derived.RangeFuncBound
import Derived.RangeFuncCalls
import Derived.RangeFuncLeaves
import Derived.RangeFuncBox
import Derived.Shelf.Abstract
import Derived.Shelf.RegionOpen
import Derived.OwnWalkIn
import Derived.TacticsInMore
import Derived.LoopNIn
import Derived.LoopIn
import Derived.StillTailTactics
import Derived.Maps.OwnOps
import Derived.Maps.OwnSet
import Derived.Maps.Views
import Derived.Deep.RegionHeld3
import Derived.Maps.AppendAt
import Derived.Conc.MuLone
set_option linter.unusedVariables false
set_option linter.unusedSimpArgs false
namespace Go.Proofs.YtjckpammcgeloaaDoor

/-! ### Through points -/
theorem thN_len (p : Nat) (xs ys : List Nat) : (thN p xs ys).length ≤ xs.length := by
  unfold thN; rw [shN_len]; have := dgN_le (nwN p xs ys xs.length).1; have := (nwN_len p xs ys xs.length).1; omega
theorem thN_lt {p : Nat} (hp : 1 ≤ p) (xs ys : List Nat) : ∀ c ∈ thN p xs ys, c < p := shN_lt (nwN_lt hp xs ys _).1
theorem thN_at {p : Nat} (hp : PrimeN p) {xs : List Nat} (hx : ∀ y ∈ xs, y < p) (hn : xs.Nodup) {ys : List Nat} (hy : ∀ y ∈ ys, y < p) {j : Nat} (hj : j < xs.length) :
    evN p (thN p xs ys) (nthN xs j) = nthN ys j := by
  have hp1 : 1 ≤ p := by have := hp.1; omega
  unfold thN
  rw [evN_nth hp1 (shN_nth _)]
  exact Cg.nat (p := p) ((cg_ev p _ _).trans (nwN_at hp hx hn hy _ (Nat.le_refl _) j hj)) (evN_lt hp1 _ _) (nthN_lt hp1 hy j)
/-- A short polynomial with the values is the one through the points. -/
theorem thN_uniq {p : Nat} (hp : PrimeN p) {xs : List Nat} (hx : ∀ y ∈ xs, y < p) (hn : xs.Nodup) {ys : List Nat} (hy : ∀ y ∈ ys, y < p) {L : List Nat} (hl : L.length ≤ xs.length) (hLp : ∀ c ∈ L, c < p)
    (he : ∀ j, j < xs.length → evN p L (nthN xs j) = nthN ys j) : ∀ k, nthN (thN p xs ys) k = nthN L k := by
  have hp1 : 1 ≤ p := by have := hp.1; omega
  exact uniqN hp hx hn (thN_len p xs ys) hl (thN_lt hp1 xs ys) hLp fun j hj => by rw [thN_at hp hx hn hy hj, he j hj]
theorem thN_short (p : Nat) (xs ys : List Nat) : shN (thN p xs ys) = thN p xs ys := shN_ext (fun k => shN_nth _ k) |>.trans rfl
theorem thN_eq {p : Nat} (hp : PrimeN p) {xs : List Nat} (hx : ∀ y ∈ xs, y < p) (hn : xs.Nodup) {ys : List Nat} (hy : ∀ y ∈ ys, y < p) {L : List Nat} (hl : L.length ≤ xs.length) (hLp : ∀ c ∈ L, c < p)
    (he : ∀ j, j < xs.length → evN p L (nthN xs j) = nthN ys j) : thN p xs ys = shN L := by
  rw [← thN_short]; exact shN_ext (thN_uniq hp hx hn hy hl hLp he)

/-- The document's: the polynomial that is 0 at all other places. -/
def oneN (p i : Nat) (xs : List Nat) : Nat → List Nat
  | 0 => [fone p]
  | n + 1 => if n = i then oneN p i xs n else mulN p (oneN p i xs n) [fsub p 0 (nthN xs n), fone p]
theorem oneN_lt {p : Nat} (hp : 1 ≤ p) (i : Nat) (xs : List Nat) : ∀ n, ∀ c ∈ oneN p i xs n, c < p
  | 0 => by intro c hc; simp [oneN] at hc; rw [hc]; exact fone_lt hp
  | n + 1 => by
    simp only [oneN]; split
    · exact oneN_lt hp i xs n
    · exact mulN_lt hp _ _
theorem oneN_len (p i : Nat) (xs : List Nat) : ∀ n, (oneN p i xs n).length ≤ if i < n then n else n + 1
  | 0 => by simp [oneN]
  | n + 1 => by
    have ih := oneN_len p i xs n
    by_cases h : n = i
    · simp only [oneN, if_pos h]; rw [if_neg (by omega)] at ih; rw [if_pos (by omega)]; exact ih
    · simp only [oneN, if_neg h]
      have hm := mulN_len p (oneN p i xs n) [fsub p 0 (nthN xs n), fone p]
      simp at hm
      by_cases h2 : i < n
      · rw [if_pos h2] at ih; rw [if_pos (by omega)]; omega
      · rw [if_neg h2] at ih; rw [if_neg (by omega)]; omega
theorem lin1_eval {p : Nat} (y : Nat) (hy : y ≤ p) (x : Int) : Cg p (evalZ (ofN [fsub p 0 y, fone p]) x) (x - y) := by
  have e : evalZ (ofN [fsub p 0 y, fone p]) x = (fsub p 0 y : Nat) + x * (fone p : Nat) := by simp [ofN, evalZ]
  rw [e]
  exact ((cg_sub p 0 _ hy).add ((Cg.refl p x).mul (cg_one p))).trans (.of_eq (by omega))
theorem oneN_eval {p : Nat} (hp : 1 ≤ p) (i : Nat) {xs : List Nat} (hx : ∀ y ∈ xs, y < p) (x : Int) : ∀ n, Cg p (evalZ (ofN (oneN p i xs n)) x) (prodE i n fun k => x - (nthN xs k : Nat))
  | 0 => (Cg.of_eq (by simp [oneN, ofN, evalZ])).trans (cg_one p)
  | n + 1 => by
    have ih := oneN_eval hp i hx x n
    by_cases h : n = i
    · simp only [oneN, prodE, if_pos h]; exact ih
    · simp only [oneN, prodE, if_neg h]
      exact (mul_eval p _ _ x hp).trans (ih.mul (lin1_eval _ (Nat.le_of_lt (nthN_lt hp hx n)) x))
def rfN (p : Nat) (xs ys : List Nat) : Nat → List Nat
  | 0 => List.replicate xs.length 0
  | i + 1 => (List.range xs.length).map fun k => fadd p (nthN (rfN p xs ys i) k) (fmul p (fmul p (nthN (oneN p i xs xs.length) k) (invV p (topN p i (nthN xs i) xs xs.length))) (nthN ys i))
theorem rfN_len (p : Nat) (xs ys : List Nat) : ∀ i, (rfN p xs ys i).length = xs.length
  | 0 => by simp [rfN]
  | i + 1 => by simp [rfN]
theorem rfN_lt {p : Nat} (hp : 1 ≤ p) (xs ys : List Nat) : ∀ i, ∀ c ∈ rfN p xs ys i, c < p
  | 0 => by intro c hc; simp [rfN] at hc; omega
  | i + 1 => by
    intro c hc
    obtain ⟨k, _, rfl⟩ := List.mem_map.1 hc
    exact fadd_lt hp _ _
theorem rfN_nth (p : Nat) (xs ys : List Nat) (i k : Nat) (hk : k < xs.length) : nthN (rfN p xs ys (i + 1)) k = fadd p (nthN (rfN p xs ys i) k) (fmul p (fmul p (nthN (oneN p i xs xs.length) k) (invV p (topN p i (nthN xs i) xs xs.length))) (nthN ys i)) := by
  rw [nthN_eq (by rw [rfN_len]; exact hk)]; simp [rfN]
theorem rfN_eval {p : Nat} (hp : 1 ≤ p) {xs : List Nat} (hx : ∀ y ∈ xs, y < p) (ys : List Nat) (x : Int) : ∀ i, i ≤ xs.length →
    Cg p (evalZ (ofN (rfN p xs ys i)) x) (sumI i fun j => prodE j xs.length (fun k => x - (nthN xs k : Nat)) * (invV p (topN p j (nthN xs j) xs xs.length) : Nat) * (nthN ys j : Nat))
  | 0, _ => by
    rw [evalZ_sum x _ xs.length (by rw [rfN_len]; exact Nat.le_refl _)]
    exact sumI_zero _ fun k hk => .of_eq (by simp [rfN, nthN, List.getD_eq_getElem?_getD, hk])
  | i + 1, hi => by
    have ih := rfN_eval hp hx ys x i (by omega)
    rw [evalZ_sum x _ xs.length (by rw [rfN_len]; exact Nat.le_refl _)] at ih
    rw [evalZ_sum x _ xs.length (by rw [rfN_len]; exact Nat.le_refl _)]
    have ho := oneN_eval hp i hx x xs.length
    have hol := oneN_len p i xs xs.length
    rw [if_pos (by omega)] at hol
    rw [evalZ_sum x _ xs.length hol] at ho
    have h2 : Cg p (sumI xs.length fun n => (nthN (rfN p xs ys (i + 1)) n : Int) * x ^ n)
        (sumI xs.length fun n => (nthN (rfN p xs ys i) n : Int) * x ^ n + ((invV p (topN p i (nthN xs i) xs xs.length) : Nat) * (nthN ys i : Int)) * ((nthN (oneN p i xs xs.length) n : Int) * x ^ n)) := by
      refine sumI_cg _ fun k hk => ?_
      rw [rfN_nth p xs ys i k hk]
      have h3 := (cg_add p (nthN (rfN p xs ys i) k) (fmul p (fmul p (nthN (oneN p i xs xs.length) k) (invV p (topN p i (nthN xs i) xs xs.length))) (nthN ys i))).trans ((Cg.refl p _).add ((cg_mul p _ _).trans ((cg_mul p _ _).mul (Cg.refl p _))))
      exact (h3.mul (Cg.refl p _)).trans (.of_eq (by grind))
    rw [sumI_add, sumI_mul] at h2
    refine h2.trans ?_
    simp only [sumI]
    exact ih.add (((Cg.refl p _).mul ho).trans (.of_eq (by grind)))
/-- The document's polynomial is the program's. -/
theorem th_ref {p : Nat} (hp : PrimeN p) {xs : List Nat} (hx : ∀ y ∈ xs, y < p) (hn : xs.Nodup) {ys : List Nat} (hy : ∀ y ∈ ys, y < p) : thN p xs ys = shN (rfN p xs ys xs.length) := by
  have hp1 : 1 ≤ p := by have := hp.1; omega
  refine thN_eq hp hx hn hy (by rw [rfN_len]; exact Nat.le_refl _) (rfN_lt hp1 xs ys _) fun j hj => ?_
  refine Cg.nat (p := p) ((cg_ev p _ _).trans ((rfN_eval hp1 hx ys _ _ (Nat.le_refl _)).trans ?_)) (evN_lt hp1 _ _) (nthN_lt hp1 hy j)
  refine (sumI_one j _ hj (fun k hk hkj => ?_)).trans ?_
  · have h0 := prodE_zero (p := p) (i := k) (f := fun m => ((nthN xs j : Nat) : Int) - (nthN xs m : Nat)) xs.length j hj (by omega) (Cg.of_eq (by omega))
    exact ((h0.mul (Cg.refl p _)).mul (Cg.refl p _)).trans (.of_eq (by simp))
  · exact ((inv_below hp hx hn hj).mul (Cg.refl p _)).trans (.of_eq (by simp))
/-- A polynomial comes back from its points. -/
theorem th_back {p : Nat} (hp : PrimeN p) {xs : List Nat} (hx : ∀ y ∈ xs, y < p) (hn : xs.Nodup) {ys : List Nat} (hy : ∀ y ∈ ys, y < p) {L : List Nat} (hl : L.length ≤ xs.length) (hLp : ∀ c ∈ L, c < p)
    (he : ∀ j, j < xs.length → nthN ys j = evN p L (nthN xs j)) : thN p xs ys = shN L := thN_eq hp hx hn hy hl hLp fun j hj => (he j hj).symm

/-! ### Division -/
def stN (p : Nat) (b : List Nat) (d c m : Nat) (r : List Nat) : List Nat :=
  (List.range r.length).map fun j => if m ≤ j ∧ j ≤ m + d then fsub p (nthN r j) (fmul p c (nthN b (j - m))) else nthN r j
theorem stN_len (p : Nat) (b : List Nat) (d c m : Nat) (r : List Nat) : (stN p b d c m r).length = r.length := by simp [stN]
theorem stN_nth (p : Nat) (b : List Nat) (d c m : Nat) (r : List Nat) {j : Nat} (hj : j < r.length) : nthN (stN p b d c m r) j = if m ≤ j ∧ j ≤ m + d then fsub p (nthN r j) (fmul p c (nthN b (j - m))) else nthN r j := by
  rw [nthN_eq (by rw [stN_len]; exact hj)]; simp [stN]
theorem stN_in (p : Nat) (b : List Nat) (d c m : Nat) (r : List Nat) {j : Nat} (hj : j < r.length) (h : m ≤ j ∧ j ≤ m + d) : nthN (stN p b d c m r) j = fsub p (nthN r j) (fmul p c (nthN b (j - m))) := by
  rw [stN_nth p b d c m r hj, if_pos h]
theorem stN_out (p : Nat) (b : List Nat) (d c m : Nat) (r : List Nat) {j : Nat} (h : ¬ (m ≤ j ∧ j ≤ m + d)) : nthN (stN p b d c m r) j = nthN r j := by
  by_cases hj : j < r.length
  · rw [stN_nth p b d c m r hj, if_neg h]
  · rw [nthN_ge (by rw [stN_len]; omega), nthN_ge (by omega)]
theorem stN_lt {p : Nat} (hp : 1 ≤ p) (b : List Nat) (d c m : Nat) {r : List Nat} (hr : ∀ x ∈ r, x < p) : ∀ x ∈ stN p b d c m r, x < p := by
  intro x hx
  obtain ⟨j, hj, rfl⟩ := List.mem_map.1 hx
  split
  · exact fsub_lt hp _ _
  · exact nthN_lt hp hr j
def cN (p inv d : Nat) (r : List Nat) (m : Nat) : Nat := fmul p (nthN r (m + d)) inv
/-- The last m steps of a division. -/
def dvN (p : Nat) (b : List Nat) (d inv : Nat) : Nat → List Nat → List Nat → List Nat × List Nat
  | 0, r, q => (r, q)
  | m + 1, r, q => dvN p b d inv m (stN p b d (cN p inv d r m) m r) (q.set m (cN p inv d r m))
theorem fsub_zero {p x : Nat} (hx : x < p) : fsub p x 0 = x := by unfold fsub; rw [Nat.sub_zero, Nat.add_mod_right, Nat.mod_eq_of_lt hx]
theorem fmul_zero (p x : Nat) : fmul p 0 x = 0 := by unfold fmul; simp
theorem stN_zero {p : Nat} (hp : 1 ≤ p) (b : List Nat) (d m : Nat) {r : List Nat} (hr : ∀ x ∈ r, x < p) : stN p b d 0 m r = r := by
  refine extN (stN_len _ _ _ _ _ _) fun k hk => ?_
  rw [stN_len] at hk
  rw [stN_nth p b d 0 m r hk]
  split
  · rw [fmul_zero, fsub_zero (nthN_lt hp hr k)]
  · rfl
theorem set_zero {q : List Nat} {m : Nat} (h : nthN q m = 0) : q.set m 0 = q := by
  refine extN (by simp) fun k hk => ?_
  by_cases e : m = k
  · subst e; rw [nthN_set_same _ _ _ (by simpa using hk), h]
  · rw [nthN_set_other _ _ _ _ e]
/-- Steps at places that hold 0 change nothing. -/
theorem dvN_skip {p : Nat} (hp : 1 ≤ p) (b : List Nat) (d inv : Nat) {r q : List Nat} (hr : ∀ x ∈ r, x < p) (m1 : Nat) : ∀ m, m1 ≤ m → (∀ k, m1 + d ≤ k → nthN r k = 0) → (∀ k, k < m → nthN q k = 0) →
    dvN p b d inv m r q = dvN p b d inv m1 r q
  | 0, h, _, _ => by rw [show m1 = 0 by omega]
  | m + 1, h, hz, hq => by
    by_cases e : m1 = m + 1
    · rw [e]
    · have hc : cN p inv d r m = 0 := by unfold cN; rw [hz (m + d) (by omega), fmul_zero]
      show dvN p b d inv m (stN p b d (cN p inv d r m) m r) (q.set m (cN p inv d r m)) = _
      rw [hc, stN_zero hp b d m hr, set_zero (hq m (by omega))]
      exact dvN_skip hp b d inv hr m1 m (by omega) hz (fun k hk => hq k (by omega))
/-- The place of a step holds 0 after it. -/
theorem stN_top {p : Nat} (hp : PrimeN p) {b : List Nat} {d : Nat} (hb : ∀ x ∈ b, x < p) (hd : nthN b d ≠ 0) {r : List Nat} (hr : ∀ x ∈ r, x < p) {m : Nat} (hm : m + d < r.length) :
    nthN (stN p b d (cN p (invV p (nthN b d)) d r m) m r) (m + d) = 0 := by
  have hp1 : 1 ≤ p := by have := hp.1; omega
  have hbd : ¬ Cg p (nthN b d : Nat) 0 := fun h => hd (Cg.zero_nat h (nthN_lt hp1 hb d))
  rw [stN_in p b d _ m r hm ⟨by omega, by omega⟩, show m + d - m = d by omega]
  refine Cg.zero_nat (p := p) ?_ (fsub_lt hp1 _ _)
  refine (cg_sub p _ _ (Nat.le_of_lt (fmul_lt hp1 _ _))).trans ?_
  rw [invV_of_ne hbd]
  have h1 := (cg_mul p (cN p (finv p (nthN b d)) d r m) (nthN b d)).trans ((cg_mul p (nthN r (m + d)) (finv p (nthN b d))).mul (Cg.refl p _))
  have h2 := (Cg.refl p (nthN r (m + d) : Int)).mul (cg_inv hp hbd)
  exact ((Cg.refl p _).sub (h1.trans ((Cg.of_eq (by grind)).trans h2))).trans (.of_eq (by omega))
theorem dvN_len (p : Nat) (b : List Nat) (d inv : Nat) : ∀ (m : Nat) (r q : List Nat), (dvN p b d inv m r q).1.length = r.length ∧ (dvN p b d inv m r q).2.length = q.length
  | 0, _, _ => ⟨rfl, rfl⟩
  | m + 1, r, q => by
    have ih := dvN_len p b d inv m (stN p b d (cN p inv d r m) m r) (q.set m (cN p inv d r m))
    rw [stN_len, List.length_set] at ih; exact ih
theorem set_lt {p : Nat} {q : List Nat} (hq : ∀ x ∈ q, x < p) {c : Nat} (hc : c < p) (m : Nat) : ∀ x ∈ q.set m c, x < p := fun x hx => by
  rcases List.mem_or_eq_of_mem_set hx with h | h
  · exact hq x h
  · rw [h]; exact hc
theorem dvN_lt {p : Nat} (hp : 1 ≤ p) (b : List Nat) (d inv : Nat) : ∀ (m : Nat) (r q : List Nat), (∀ x ∈ r, x < p) → (∀ x ∈ q, x < p) → (∀ x ∈ (dvN p b d inv m r q).1, x < p) ∧ ∀ x ∈ (dvN p b d inv m r q).2, x < p
  | 0, _, _, hr, hq => ⟨hr, hq⟩
  | m + 1, r, q, hr, hq => dvN_lt hp b d inv m _ _ (stN_lt hp b d _ m hr) (set_lt hq (fmul_lt hp _ _) m)
theorem sumI_upd {f g : Nat → Int} (m : Nat) : ∀ N, m < N → (∀ k, k < N → k ≠ m → g k = f k) → sumI N g = sumI N f + (g m - f m)
  | 0, h, _ => absurd h (by omega)
  | N + 1, h, he => by
    simp only [sumI]
    by_cases e : m = N
    · subst e
      rw [sumI_ext m (fun k hk => he k (by omega) (by omega))]; omega
    · rw [sumI_upd m N (by omega) (fun k hk => he k (by omega)), he N (by omega) (by omega)]; omega
/-- What a division leaves: the quotient's product with the divisor and the rest are the dividend; the rest is short. -/
theorem dvN_spec {p : Nat} (hp : PrimeN p) {b : List Nat} {d : Nat} (hb : ∀ x ∈ b, x < p) (hd : nthN b d ≠ 0) (hbz : ∀ k, d < k → nthN b k = 0) (T : Nat → Int) :
    ∀ (m : Nat) (r q : List Nat), (∀ x ∈ r, x < p) → m ≤ q.length → (m = 0 ∨ m + d ≤ r.length) → (∀ k, m + d ≤ k → nthN r k = 0) → (∀ k, k < m → nthN q k = 0) →
      (∀ n, Cg p (sumI q.length (cvI q b n) + (nthN r n : Int)) (T n)) →
      (∀ n, Cg p (sumI q.length (cvI (dvN p b d (invV p (nthN b d)) m r q).2 b n) + (nthN (dvN p b d (invV p (nthN b d)) m r q).1 n : Int)) (T n)) ∧ ∀ k, d ≤ k → nthN (dvN p b d (invV p (nthN b d)) m r q).1 k = 0
  | 0, r, q, _, _, _, hz, _, hT => ⟨hT, fun k hk => hz k (by omega)⟩
  | m + 1, r, q, hr, hmq, hmr, hz, hq, hT => by
    have hp1 : 1 ≤ p := by have := hp.1; omega
    have hc := fmul_lt hp1 (nthN r (m + d)) (invV p (nthN b d))
    have key := dvN_spec hp hb hd hbz T m (stN p b d (cN p (invV p (nthN b d)) d r m) m r) (q.set m (cN p (invV p (nthN b d)) d r m)) (stN_lt hp1 b d _ m hr) (by simp; omega) (.inr (by rw [stN_len]; omega))
      (fun k hk => by
        by_cases e : k = m + d
        · subst e; exact stN_top hp hb hd hr (by omega)
        · rw [stN_out p b d _ m r (by omega)]; exact hz k (by omega))
      (fun k hk => by rw [nthN_set_other _ _ _ _ (by omega)]; exact hq k (by omega))
      (fun n => by
        refine Cg.trans ?_ (hT n)
        rw [List.length_set]
        have hs := sumI_upd (f := cvI q b n) (g := cvI (q.set m (cN p (invV p (nthN b d)) d r m)) b n) m q.length (by omega) (fun k _ hk => by
          unfold cvI; rw [nthN_set_other _ _ _ _ (by omega)])
        rw [hs]
        have e0 : cvI q b n m = 0 := by unfold cvI; rw [hq m (by omega)]; split <;> simp
        have e1 : cvI (q.set m (cN p (invV p (nthN b d)) d r m)) b n m = if m ≤ n then (cN p (invV p (nthN b d)) d r m : Int) * (nthN b (n - m) : Int) else 0 := by
          unfold cvI; rw [nthN_set_same _ _ _ (by omega)]
        rw [e0, e1]
        by_cases h1 : m ≤ n ∧ n ≤ m + d
        · rw [if_pos h1.1, stN_in p b d _ m r (by omega) h1]
          have h2 := (cg_sub p (nthN r n) _ (Nat.le_of_lt (fmul_lt hp1 (cN p (invV p (nthN b d)) d r m) (nthN b (n - m))))).trans ((Cg.refl p _).sub (cg_mul p _ _))
          exact ((Cg.refl p _).add h2).trans (.of_eq (by omega))
        · rw [stN_out p b d _ m r h1]
          by_cases h2 : m ≤ n
          · rw [if_pos h2, hbz (n - m) (by omega)]; exact .of_eq (by simp)
          · rw [if_neg h2]; exact .of_eq (by simp))
    rw [List.length_set] at key
    exact key
theorem sumI_past {f : Nat → Int} (n : Nat) : ∀ N, n ≤ N → (∀ k, n ≤ k → k < N → f k = 0) → sumI N f = sumI n f
  | 0, h, _ => by rw [show n = 0 by omega]
  | N + 1, h, hz => by
    by_cases e : n = N + 1
    · rw [e]
    · simp only [sumI]; rw [sumI_past n N (by omega) (fun k h1 h2 => hz k h1 (by omega)), hz N (by omega) (by omega)]; omega
theorem cvI_nth {a a' b : List Nat} (h : ∀ k, nthN a k = nthN a' k) (n : Nat) : cvI a b n = cvI a' b n := by
  funext j; unfold cvI; rw [h j]
/-- A product depends on the coefficients alone. -/
theorem mulN_short {p : Nat} (hp : 1 ≤ p) (q b : List Nat) (n : Nat) : Cg p (nthN (mulN p (shN q) b) n : Nat) (sumI q.length (cvI q b n)) := by
  rw [mulN_nth p _ b n hp]
  refine (cfN_cg p _ b n _).trans (.of_eq ?_)
  rw [cvI_nth (shN_nth q) n, shN_len]
  refine (sumI_past (dgN q) q.length (dgN_le q) fun k h1 _ => ?_).symm
  unfold cvI; rw [dgN_above q k h1]; split <;> simp
theorem divides {p : Nat} (hp : PrimeN p) {a b : List Nat} (ha : ∀ x ∈ a, x < p) (hb : ∀ x ∈ b, x < p) {d : Nat} (hd : nthN b d ≠ 0) (hbz : ∀ k, d < k → nthN b k = 0)
    {r q : List Nat} (h : dvN p b d (invV p (nthN b d)) (a.length - d) a (List.replicate (a.length - d) 0) = (r, q)) :
    shN (linN p (mulN p (shN q) b) (shN r) (fone p)) = shN a ∧ dgN r ≤ d := by
  have hp1 : 1 ≤ p := by have := hp.1; omega
  have hz0 : ∀ k, nthN (List.replicate (a.length - d) 0) k = 0 := fun k => by
    by_cases hk : k < a.length - d
    · simp [nthN, List.getD_eq_getElem?_getD, hk]
    · exact nthN_ge (by simp; omega)
  have key := dvN_spec hp hb hd hbz (fun n => (nthN a n : Int)) (a.length - d) a (List.replicate (a.length - d) 0) ha (by simp) (by omega) (fun k hk => nthN_ge (by omega)) (fun k _ => hz0 k) (fun n => by
    have : sumI (List.replicate (a.length - d) 0).length (cvI (List.replicate (a.length - d) 0) b n) = sumI (List.replicate (a.length - d) 0).length fun k => 0 * 0 :=
      sumI_ext _ fun k _ => by unfold cvI; rw [hz0 k]; split <;> simp
    rw [this, sumI_mul]; exact .of_eq (by omega))
  have hl := dvN_len p b d (invV p (nthN b d)) (a.length - d) a (List.replicate (a.length - d) 0)
  have hlt := dvN_lt hp1 b d (invV p (nthN b d)) (a.length - d) a (List.replicate (a.length - d) 0) ha (fun x hx => by rw [List.mem_replicate] at hx; omega)
  rw [h] at key hl hlt
  obtain ⟨key, hr0⟩ := key
  obtain ⟨hl1, hl2⟩ := hl
  simp only at key hr0 hl1 hl2
  rw [← hl2] at key
  refine ⟨shN_ext fun n => ?_, dgN_lt_of hr0⟩
  refine Cg.nat (p := p) ?_ (nthN_lt hp1 (linN_lt hp1) n) (nthN_lt hp1 ha n)
  have hcg : Cg p ((nthN (mulN p (shN q) b) n : Int) + (nthN r n : Int)) (nthN a n : Int) := ((mulN_short hp1 q b n).add (Cg.refl p _)).trans (key n)
  refine Cg.trans ?_ hcg
  by_cases hn : n < max (mulN p (shN q) b).length (shN r).length
  · rw [linN_nth hn, shN_nth]
    exact (cg_add p _ _).trans ((Cg.refl p _).add ((cg_mul p _ _).trans (((cg_one p).mul (Cg.refl p _)).trans (.of_eq (by simp)))))
  · have e1 : nthN (mulN p (shN q) b) n = 0 := nthN_ge (by omega)
    have e2 : nthN r n = 0 := by rw [← shN_nth]; exact nthN_ge (by omega)
    rw [nthN_ge (by rw [linN_len]; omega), e1, e2]; exact .of_eq (by simp)
end Go.Proofs.YtjckpammcgeloaaDoor
namespace Go.Proofs.YtjckpammcgeloaaDoor
open Go.RowKit Go.Shelf

attribute [local go_sem] Oper.semAt_some

/-- What has come when k rounds of a walk from the end are over: the places. -/
def dnF (n : Nat) : (k : Nat) → k ≤ n → List (Fin n)
  | 0, _ => []
  | k + 1, h => dnF n k (by omega) ++ [⟨n - 1 - k, by omega⟩]
theorem dnF_len (n : Nat) : ∀ (k : Nat) (h : k ≤ n), (dnF n k h).length = k
  | 0, _ => rfl
  | k + 1, h => by simp [dnF, dnF_len n k]
/-- A list that lies below n₀. -/
def NatsLow (n₀ : Nat) (W : World) (A : Option Addr) (L : List Nat) : Prop :=
  ∀ k, k < L.length → ∃ b off, A = some ⟨b, off, none⟩ ∧ b < n₀ ∧ W.cell? ⟨b, off + k, none⟩ = some (.int .i64 (nthN L k : Nat))
theorem NatsLow.below {n₀ : Nat} {W W' : World} {A : Option Addr} {L : List Nat} (h : NatsLow n₀ W A L) (hb : Below n₀ W W') : NatsLow n₀ W' A L := fun k hk => by
  obtain ⟨b, off, hA, hlt, hc⟩ := h k hk
  exact ⟨b, off, hA, hlt, (hb.cell hlt).trans hc⟩
theorem NatsAt.low {w : World} {A : Option Addr} {L : List Nat} (h : NatsAt w A L) : NatsLow w.heap.size w A L := h

/-- What a round keeps: what lay below n₀, and the slice's box. -/
structure KpB (n₀ Bs : Nat) (W W' : World) : Prop where
  low : Below n₀ W W'
  box : W'.heap[Bs]? = W.heap[Bs]?
theorem KpB.refl (n₀ Bs : Nat) (W : World) : KpB n₀ Bs W W := ⟨Below.refl _ _, rfl⟩
theorem KpB.trans {n₀ Bs : Nat} {A B C : World} (h : KpB n₀ Bs A B) (g : KpB n₀ Bs B C) : KpB n₀ Bs A C := ⟨h.low.trans g.low, g.box.trans h.box⟩
theorem KpB.turn {n₀ Bs : Nat} {w : World} (hn : n₀ ≤ w.heap.size) (hB : Bs < w.heap.size) (W : World) (l : Nat) (o o' : Obj) (hl : w.heap.size ≤ l) (ho : W.heap[l]? = some o) (h1 : o.isCells = false) (h2 : o.isWalk = false) : KpB n₀ Bs W (W.putObj l o') :=
  ⟨belowK_b hn W l o o' hl ho h1 h2, (grownBy_putObj' W l o').block Bs (by have := (Array.getElem?_eq_some_iff.1 ho).1; omega) (fun e => by injection e with e; omega)⟩
theorem KpB.cell {n₀ Bs : Nat} {W W' : World} (h : KpB n₀ Bs W W') : W'.cell? ⟨Bs, 0, none⟩ = W.cell? ⟨Bs, 0, none⟩ := World.cell?_of_block (w := W) h.box

/-- The value of the last k coefficients. -/
def evD (p : Nat) (L : List Nat) (x k : Nat) : Nat := evN p (L.drop (L.length - k)) x
theorem evD_zero (p : Nat) (L : List Nat) (x : Nat) : evD p L x 0 = 0 := by unfold evD; rw [Nat.sub_zero, List.drop_length]; rfl
theorem evD_succ (p : Nat) (L : List Nat) (x k : Nat) (h : k < L.length) : evD p L x (k + 1) = fadd p (fmul p (evD p L x k) x) (nthN L (L.length - 1 - k)) := by
  unfold evD
  rw [show L.length - (k + 1) = L.length - 1 - k by omega, List.drop_eq_getElem_cons (show L.length - 1 - k < L.length by omega), ← nthN_eq, show L.length - 1 - k + 1 = L.length - k by omega]
  rfl
theorem evD_all (p : Nat) (L : List Nat) (x : Nat) : evD p L x L.length = evN p L x := by unfold evD; rw [Nat.sub_self]; rfl
theorem evD_lt {p : Nat} (hp : 1 ≤ p) (L : List Nat) (x k : Nat) : evD p L x k < p := evN_lt hp _ _
/-- The value as the rounds make it. -/
def evP (p : Nat) (L : List Nat) (x : Nat) (pre : List (Fin L.length)) : Nat := pre.foldl (fun v i => fadd p (fmul p v x) (nthN L i.1)) 0
theorem evP_snoc (p : Nat) (L : List Nat) (x : Nat) (pre : List (Fin L.length)) (i : Fin L.length) : evP p L x (pre ++ [i]) = fadd p (fmul p (evP p L x pre) x) (nthN L i.1) := by simp [evP]
theorem evP_dn (p : Nat) (L : List Nat) (x : Nat) : ∀ (k : Nat) (h : k ≤ L.length), evP p L x (dnF L.length k h) = evD p L x k
  | 0, _ => (evD_zero p L x).symm
  | k + 1, h => by
    show evP p L x (dnF L.length k _ ++ [_]) = _
    rw [evP_snoc, evP_dn p L x k, evD_succ p L x k (by omega)]
theorem evP_all (p : Nat) (L : List Nat) (x : Nat) : evP p L x (dnF L.length L.length (Nat.le_refl _)) = evN p L x := by rw [evP_dn, evD_all]
theorem evP_lt {p : Nat} (hp : 1 ≤ p) (L : List Nat) (x : Nat) (pre : List (Fin L.length)) : evP p L x pre < p := by
  rcases List.eq_nil_or_concat pre with h | ⟨q, i, h⟩
  · subst h; exact hp
  · subst h; rw [List.concat_eq_append, evP_snoc]; exact fadd_lt hp _ _
end Go.Proofs.YtjckpammcgeloaaDoor
namespace Go.Proofs.YtjckpammcgeloaaDoor
open Go.RowKit Go.Shelf

attribute [local go_sem] Oper.semAt_some

def EvI (p x : Nat) (L : List Nat) (w : World) (pre : List (Fin L.length)) (W : World) : Prop :=
  W.cell? ⟨w.heap.size + 1 + 1, 0, none⟩ = some (.int .i64 (evP p L x pre : Nat)) ∧ W.frozen? ⟨w.heap.size + 1 + 1, 0, none⟩ = false ∧
    W.cell? ⟨w.heap.size, 0, none⟩ = some (.int .i64 (p : Int)) ∧ W.cell? ⟨w.heap.size + 1, 0, none⟩ = some (.int .i64 (x : Int))
theorem EvI.own (p x : Nat) (L : List Nat) (w : World) : Own (EvI p x L w) := fun s A B row hs hg hr => by
  obtain ⟨h1, h2, h3, h4⟩ := hs
  exact ⟨cell_kept h1 hg hr, (frozen_kept h1 hg hr).trans h2, cell_kept h3 hg hr, cell_kept h4 hg hr⟩

theorem EvI.round {p x v c : Nat} {L : List Nat} {w W : World} {pre : List (Fin L.length)} {y : Fin L.length} (B : Nat) (hc : W.cell? ⟨w.heap.size + 1 + 1, 0, none⟩ = some (.int .i64 (v : Int))) (hf : W.frozen? ⟨w.heap.size + 1 + 1, 0, none⟩ = false)
    (hcp : W.cell? ⟨w.heap.size, 0, none⟩ = some (.int .i64 (p : Int))) (hcx : W.cell? ⟨w.heap.size + 1, 0, none⟩ = some (.int .i64 (x : Int))) (hB : Below w.heap.size w W) (hs : evP p L x (pre ++ [y]) = fadd p (fmul p v x) c) :
    KeepsFrom B W (W.setCell ⟨w.heap.size + 1 + 1, 0, none⟩ (.int .i64 (fadd p (fmul p v x) c : Nat))).drew ∧ KpB w.heap.size (w.heap.size + 1 + 1 + 1) W (W.setCell ⟨w.heap.size + 1 + 1, 0, none⟩ (.int .i64 (fadd p (fmul p v x) c : Nat))).drew ∧
      EvI p x L w (pre ++ [y]) (W.setCell ⟨w.heap.size + 1 + 1, 0, none⟩ (.int .i64 (fadd p (fmul p v x) c : Nat))).drew ∧ Below w.heap.size w (W.setCell ⟨w.heap.size + 1 + 1, 0, none⟩ (.int .i64 (fadd p (fmul p v x) c : Nat))).drew := by
  refine ⟨((KeepsOthers.setCell _ _ _).trans (KeepsOthers.drew _)).from _, ⟨((Below.refl _ W).setCell (by show _ ≤ w.heap.size + 1 + 1; omega) _).drew, Below.heap_setCell W _ _ _ (by simp)⟩, ⟨?_, ?_, ?_, ?_⟩, (hB.setCell (by show _ ≤ w.heap.size + 1 + 1; omega) _).drew⟩
  · rw [hs]; exact World.cell?_setCell_same' _ _ _ (by rw [hc]; rfl)
  · rw [frozen_drew_own, World.frozen?_setCell]; exact hf
  · rw [cell_drew_own, World.cell?_setCell_other _ _ _ _ (fun e => by injection e with e1; omega)]; exact hcp
  · rw [cell_drew_own, World.cell?_setCell_other _ _ _ _ (fun e => by injection e with e1; omega)]; exact hcx

end Go.Proofs.YtjckpammcgeloaaDoor
namespace Go.Proofs.YtjckpammcgeloaaDoor
open Go.RowKit Go.Shelf

attribute [local go_sem] Oper.semAt_some

/-- The degree: -1 if there is none. -/
def dgI (L : List Nat) : Int := (dgN L : Int) - 1
theorem mem_dnF (n : Nat) : ∀ (k : Nat) (h : k ≤ n) (i : Fin n), i ∈ dnF n k h ↔ n - k ≤ i.1
  | 0, h, i => by simp [dnF]
  | k + 1, h, i => by
    rw [dnF, List.mem_append, mem_dnF n k (by omega) i, List.mem_singleton, Fin.ext_iff]
    show _ ∨ i.1 = n - 1 - k ↔ _
    have := i.2
    omega
/-- All that has come is 0. -/
def AllZ (L : List Nat) (pre : List (Fin L.length)) : Prop := ∀ y ∈ pre, nthN L y.1 = 0
/-- The last that came is not 0, all before it are. -/
def HitZ (L : List Nat) (pre : List (Fin L.length)) (i : Nat) : Prop := ∃ q y, pre = q ++ [y] ∧ AllZ L q ∧ nthN L y.1 ≠ 0 ∧ i = y.1
theorem AllZ.snoc {L : List Nat} {pre : List (Fin L.length)} {y : Fin L.length} (h : AllZ L pre) (hy : nthN L y.1 = 0) : AllZ L (pre ++ [y]) := fun z hz => by
  rcases List.mem_append.1 hz with hz | hz
  · exact h z hz
  · simp at hz; subst hz; exact hy
theorem AllZ.done {L : List Nat} (h : AllZ L (dnF L.length L.length (Nat.le_refl _))) : dgI L = -1 := by
  have : dgN L = 0 := dgN_eq (fun k _ => by
    by_cases hk : k < L.length
    · exact h ⟨k, hk⟩ ((mem_dnF _ _ _ _).2 (by simp))
    · exact nthN_ge (by omega)) (fun h => absurd h (by omega))
  unfold dgI; omega
theorem HitZ.stop {L : List Nat} {pre : List (Fin L.length)} {i : Nat} (h : HitZ L pre i) (hd : ∃ k h, pre = dnF L.length k h) : dgI L = (i : Int) := by
  obtain ⟨q, y, hp, hq, hy, rfl⟩ := h
  obtain ⟨k, hk, hd⟩ := hd
  rw [hp] at hd
  rcases k with _ | k
  · simp [dnF] at hd
  · rw [dnF] at hd
    obtain ⟨h1, h2⟩ := List.append_inj' hd rfl
    simp at h2
    have hv : y.1 = L.length - 1 - k := by rw [h2]
    have : dgN L = y.1 + 1 := dgN_eq (fun j hj => by
      by_cases hjl : j < L.length
      · exact hq ⟨j, hjl⟩ (by rw [h1, mem_dnF]; show _ ≤ j; omega)
      · exact nthN_ge (by omega)) (fun _ => hy)
    unfold dgI; omega

end Go.Proofs.YtjckpammcgeloaaDoor
namespace Go.Proofs.YtjckpammcgeloaaDoor
open Go.RowKit

/-- What a slice of numbers that a call made looks like. -/
structure SlOK (A : Option Addr) (c : Nat) (L : List Nat) : Prop where
  len : L.length ≤ c
  cap : c ≤ maxLen
  nil : A = none → c = 0
  spot : ∀ a, A = some a → a.spot = none
theorem own_sl {w : World} {base : Nat} {v : Value} {L : List Nat} {n : Nat} (h : w.ownsRow base 3 1 v n (valsN L)) (hn : n = L.length) :
    ∃ A c, v = .slice A L.length c ∧ NatsAt w A L ∧ SlOK A c L ∧ ∀ b off, A = some ⟨b, off, none⟩ → base ≤ b ∧ b < w.heap.size := by
  obtain ⟨A, c, hv, hN, -⟩ := NatsAt.of_own h hn
  subst hn
  have hlt := h.lt
  refine ⟨A, c, hv, hN, ?_, ?_⟩
  · rcases h.2 with ⟨h1, h0⟩ | ⟨g, cap, cur, h1, hg, hh, hnc, hcm, hcs, htk⟩
    · rw [hv] at h1; injection h1 with h2 h3 h4; subst h2; subst h4
      exact ⟨by omega, Nat.zero_le _, fun _ => rfl, fun a e => by cases e⟩
    · rw [hv] at h1; injection h1 with h2 h3 h4; subst h2; subst h4
      exact ⟨hnc, hcm, (fun e => by cases e), fun a e => by injection e with e; subst e; rfl⟩
  · intro b off e
    rcases h.2 with ⟨h1, h0⟩ | ⟨g, cap, cur, h1, hg, hh, hnc, hcm, hcs, htk⟩
    · rw [hv] at h1; injection h1 with h2; subst h2; cases e
    · rw [hv] at h1; injection h1 with h2; subst h2; injection e with e; injection e with e1; subst e1
      exact hlt g (by rw [hv]; rfl)
theorem SlOK.own {w : World} {g : Nat} {L : List Nat} (_ : NatBlk w g L) (hl : L.length ≤ maxLen) : SlOK (some ⟨g, 0, none⟩) L.length L :=
  ⟨Nat.le_refl _, hl, (fun e => by cases e), fun a e => by injection e with e; subst e; rfl⟩
theorem SlOK.none0 : SlOK none 0 [] := ⟨Nat.le_refl _, Nat.zero_le _, fun _ => rfl, fun a e => by cases e⟩
theorem SlOK.empty {A : Option Addr} {c : Nat} {L : List Nat} (h : SlOK A c L) (hA : A = none) : L = [] ∧ c = 0 := by
  have h1 := h.nil hA
  have h2 := h.len
  exact ⟨List.eq_nil_of_length_eq_zero (by omega), h1⟩
theorem NatsAt.news {w : World} {a : Addr} {L : List Nat} (h : NatsAt w (some a) L) (hs : a.spot = none) : ∀ j u, (valsN L)[j]? = some u → w.cell? (a.add j) = some u := fun j u hu => by
  obtain ⟨b, off, spot⟩ := a
  have hs : spot = none := hs
  subst hs
  have hj : j < L.length := by
    rcases Nat.lt_or_ge j (valsN L).length with h1 | h1
    · simpa [valsN] using h1
    · rw [List.getElem?_eq_none h1] at hu; cases hu
  obtain ⟨b', off', e, _, c1⟩ := h j hj
  injection e with e
  injection e with e1 e2
  subst e1; subst e2
  have e : (⟨b, off, none⟩ : Addr).add j = ⟨b, off + j, none⟩ := by
    unfold Addr.add; split
    · rename_i h; subst h; rfl
    · rfl
  rw [e, c1, ← hu, List.getElem?_map, nthN_eq hj, List.getElem?_eq_getElem hj]; rfl
theorem valsN_one (L : List Nat) : ∀ u ∈ valsN L, u.oneCell' = true := by
  intro u hu
  obtain ⟨n, _, rfl⟩ := List.mem_map.1 hu
  rfl
/-- append of a slice of numbers onto one of the call's own. -/
theorem app_nats {ops : Array Oper} {rest : List Oper} {o : Oper} {a : Act} {Q : Exit → Act → World → Prop} (hgd : o.guard = none) (s x : Operand)
    (ho : o.op = .call { callee := .builtin .append, args := #[s, x], argTypes := #[22, 22] })
    {base : Nat} {w : World} {v : Value} {S T : List Nat} {ad : Addr} {c : Nat} (hs : a.eval s = v) (hown : w.ownsRow base 3 1 v S.length (valsN S))
    (hx : a.eval x = .slice (some ad) T.length c) (hT : ∀ j u, (valsN T)[j]? = some u → w.cell? (ad.add j) = some u) (hl : S.length + T.length ≤ 4294967296) (hbase : base ≤ w.heap.size)
    (h : ∀ v' w', w'.ownsRow base 3 1 v' (S ++ T).length (valsN (S ++ T)) → w.grownBy w' v.ownBlock → Below base w w' → wpList Tryd.prog ops Q rest (a.put o.dst v') w') :
    wpList Tryd.prog ops Q (o :: rest) a w := by
  obtain ⟨i0, hi, hz0, hz1, hz2⟩ := info_parts info_int
  refine wpList_append_own w hgd s x 22 ho base 3 i0 _ 1 8 Tryd.underlying22 hi hz0 hz1 hz2 rfl (by omega) v S.length (valsN S) hs hown _ T.length c (valsN T) hx (by simp [valsN]) hT (valsN_one T) (by unfold maxLen; omega) (by omega) hbase ?_
  intro v' w' h2 h3 _
  refine h v' w' ?_ h3 ((Below.refl _ _).grown h3 hbase (fun k hk => (hown.lt k hk).1))
  rw [List.length_append]; simpa [valsN] using h2
theorem own_empty (w : World) : (w.alloc (.cells #[] 3)).ownsRow w.heap.size 3 1 (.slice (some ⟨w.heap.size, 0, none⟩) 0 0) ([] : List Nat).length (valsN []) :=
  ⟨rfl, .inr ⟨w.heap.size, 0, #[], rfl, Nat.le_refl _, heap_alloc_new w _, Nat.le_refl _, Nat.zero_le _, rfl, rfl⟩⟩
theorem below_of_alloc {B : Nat} {w w' : World} {o : Obj} (h : Below B (w.alloc o) w') (hB : B ≤ w.heap.size) : Below B w w' := ((Below.refl _ _).alloc hB o).trans h
theorem NatsAt.alloc {w : World} {A : Option Addr} {L : List Nat} (h : NatsAt w A L) (o : Obj) : NatsAt (w.alloc o) A L := h.below (below_alloc w o)
/-- What a list's contract gives. -/
theorem NewList.open_ {L : List Nat} {w w' : World} {e : Ending} (h : NewList L w e w') :
    ∃ A c, e = .returned (.slice A L.length c) ∧ NatsAt w' A L ∧ SlOK A c L ∧ (∀ b off, A = some ⟨b, off, none⟩ → w.heap.size ≤ b ∧ b < w'.heap.size) ∧ Below w.heap.size w w' := by
  obtain ⟨v, rfl, hown, hb⟩ := h
  obtain ⟨A, c, rfl, h1, h2, h3⟩ := own_sl hown rfl
  exact ⟨A, c, rfl, h1, h2, h3, hb⟩
theorem NewNats.list {L : List Nat} {w w' : World} {e : Ending} (h : NewNats L w e w') (hl : L.length ≤ maxLen) : NewList L w e w' := by
  obtain ⟨g, rfl, hg, hB, hb⟩ := h
  exact ⟨_, rfl, hB.own hg hl, hb⟩

set_option maxRecDepth 100000 in
set_option maxHeartbeats 400000 in
theorem clone_any (A : Option Addr) (L : List Nat) (c : Nat) (w : World) (hN : NatsAt w A L) (hS : SlOK A c L) (hl : L.length ≤ 1073741824) :
    Calls Tryd.prog 63 #[.slice A L.length c] w (NewList L w) := by
  rcases A with _ | a
  · obtain ⟨rfl, rfl⟩ := hS.empty rfl
    clear hN hS
    have he : ∀ w : World, (binOp .eql 22 (.slice none 0 0) (.slice none 0 0)).run Tryd.prog w = .ok (.bool true) w := fun _ => rfl
    go_enter Tryd.func63, Tryd.ntmps63
    go_wp2
    go_ret
    exact ⟨_, rfl, World.ownsRow_nil _ _ _ _, Below.refl _ _⟩
  · have HA := Lib.hid (hS.spot a rfl)
    have HN := Lib.hid hN
    clear hN hS
    have he : ∀ w : World, (binOp .eql 22 (.slice (some a) L.length c) (.slice none 0 0)).run Tryd.prog w = .ok (.bool false) w := fun _ => rfl
    go_enter Tryd.func63, Tryd.ntmps63
    go_wp2_with (first | (at_builtin; refine app_nats rfl (.tmp 5) (.tmp 6) rfl (base := w.heap.size) (S := []) (T := L) (v := .slice (some ⟨w.heap.size, 0, none⟩) 0 0) rfl (own_empty w) rfl ((HN.out.alloc _).news HA.out) (by simp; omega) (by simp) ?_; intro v w1 hown hg hb; clear hg he HN) | fail)
    go_ret
    exact ⟨_, rfl, hown, below_of_alloc hb (Nat.le_refl _)⟩

theorem dgI_succ (L : List Nat) : dgI L + 1 = (dgN L : Int) := by unfold dgI; omega
theorem dgI_ge (L : List Nat) : -1 ≤ dgI L ∧ dgI L < L.length := by have := dgN_le L; unfold dgI; omega
theorem NatsAt.take {w : World} {A : Option Addr} {L : List Nat} (h : NatsAt w A L) (k : Nat) : NatsAt w A (L.take k) := fun j hj => by
  have hj' : j < L.length := Nat.lt_of_lt_of_le hj (List.length_take_le' _ _)
  obtain ⟨b, off, hA, hb, hc⟩ := h j hj'
  refine ⟨b, off, hA, hb, ?_⟩
  rw [hc, nthN_eq hj', nthN_eq hj]; simp
theorem SlOK.take {A : Option Addr} {c : Nat} {L : List Nat} (h : SlOK A c L) (k : Nat) : SlOK A c (L.take k) :=
  ⟨Nat.le_trans (List.length_take_le' _ _) h.len, h.cap, h.nil, h.spot⟩

end Go.Proofs.YtjckpammcgeloaaDoor
namespace Go.Proofs.YtjckpammcgeloaaDoor
open Go.RowKit

theorem ev_ref (p v x c : Nat) : (v * x + c) % p = fadd p (fmul p v x) c := by unfold fadd fmul; rw [Nat.mod_add_mod]
theorem evN_drop {p : Nat} {L : List Nat} {x m : Nat} (h : m < L.length) : evN p (L.drop m) x = fadd p (fmul p (evN p (L.drop (m + 1)) x) x) (nthN L m) := by
  rw [List.drop_eq_getElem_cons h, ← nthN_eq h]; rfl
end Go.Proofs.YtjckpammcgeloaaDoor
namespace Go.Proofs.YtjckpammcgeloaaDoor
open Go.RowKit

/-- The product's coefficients while row i is being added. -/
def MidC (p : Nat) (a b : List Nat) (i k : Nat) (cs : List Nat) : Prop := ∀ m, m < a.length + b.length - 1 → nthN cs m = cfN p a b m (if m < i + k then i + 1 else i)
def RowC (p : Nat) (a b : List Nat) (i : Nat) (cs : List Nat) : Prop := ∀ m, m < a.length + b.length - 1 → nthN cs m = cfN p a b m i
theorem cfN_low {p : Nat} {a b : List Nat} {m i : Nat} (h : m < i) : cfN p a b m (i + 1) = cfN p a b m i := by simp only [cfN]; rw [if_neg (by omega)]
theorem cfN_high {p : Nat} (hp : 1 ≤ p) {a b : List Nat} {m i : Nat} (h : i + b.length ≤ m) : cfN p a b m (i + 1) = cfN p a b m i := by
  simp only [cfN]; split
  · rw [nthN_ge (L := b) (by omega)]
    have := cfN_lt hp a b m i
    unfold fadd fmul; rw [Nat.mul_zero, Nat.zero_mod, Nat.add_zero, Nat.mod_eq_of_lt this]
  · rfl
theorem cfN_mid {p : Nat} {a b : List Nat} {i k : Nat} : cfN p a b (i + k) (i + 1) = fadd p (cfN p a b (i + k) i) (fmul p (nthN a i) (nthN b k)) := by
  simp only [cfN]; rw [if_pos (by omega), Nat.add_sub_cancel_left]
theorem MidC.start {p : Nat} {a b : List Nat} {i : Nat} {cs : List Nat} (h : RowC p a b i cs) : MidC p a b i 0 cs := fun m hm => by
  rw [h m hm]; split
  · rw [cfN_low (by omega)]
  · rfl
theorem MidC.done {p : Nat} (hp : 1 ≤ p) {a b : List Nat} {i : Nat} {cs : List Nat} (h : MidC p a b i b.length cs) : RowC p a b (i + 1) cs := fun m hm => by
  rw [h m hm]; split
  · rfl
  · rw [cfN_high hp (by omega)]
theorem MidC.at_ {p : Nat} {a b : List Nat} {i k : Nat} {cs : List Nat} (h : MidC p a b i k cs) (hik : i + k < a.length + b.length - 1) : nthN cs (i + k) = cfN p a b (i + k) i := by
  rw [h _ hik, if_neg (by omega)]
theorem MidC.step {p : Nat} {a b : List Nat} {i k : Nat} {cs : List Nat} (h : MidC p a b i k cs) (hl : cs.length = a.length + b.length - 1) (hik : i + k < a.length + b.length - 1) :
    MidC p a b i (k + 1) (cs.set (i + k) (fadd p (nthN cs (i + k)) (fmul p (nthN a i) (nthN b k)))) := fun m hm => by
  by_cases hmk : i + k = m
  · subst hmk
    rw [nthN_set_same _ _ _ (by rw [hl]; exact hm), h.at_ hik, if_pos (by omega), cfN_mid]
  · rw [nthN_set_other _ _ _ _ hmk, h m hm]
    by_cases hm2 : m < i + k
    · rw [if_pos hm2, if_pos (by omega)]
    · rw [if_neg hm2, if_neg (by omega)]
theorem RowC.zero (p : Nat) (a b : List Nat) : RowC p a b 0 (List.replicate (a.length + b.length - 1) 0) := fun m _ => by
  rw [show cfN p a b m 0 = 0 from rfl]; simp only [nthN, List.getD_eq_getElem?_getD, List.getElem?_replicate]; split <;> rfl
theorem RowC.all {p : Nat} (hp : 1 ≤ p) {a b : List Nat} {cs : List Nat} (h : RowC p a b a.length cs) (hl : cs.length = a.length + b.length - 1) : cs = rowsN p a b :=
  extN (by rw [hl, rowsN_len]) fun m hm => by rw [h m (by rw [← hl]; exact hm), rowsN_nth p a b m hp]
theorem mulN_nil {p : Nat} {a b : List Nat} (h : a.length = 0 ∨ b.length = 0) : mulN p a b = [] := if_pos h
theorem mulN_sh {p : Nat} {a b : List Nat} (h : ¬ (a.length = 0 ∨ b.length = 0)) : mulN p a b = shN (rowsN p a b) := if_neg h
theorem RowC.lt {p : Nat} (hp : 1 ≤ p) {a b : List Nat} {i k : Nat} {cs : List Nat} (h : MidC p a b i k cs) (m : Nat) (hm : m < a.length + b.length - 1) : nthN cs m < p := by
  rw [h m hm]; exact cfN_lt hp _ _ _ _

end Go.Proofs.YtjckpammcgeloaaDoor
namespace Go.Proofs.YtjckpammcgeloaaDoor
open Go.RowKit

theorem mul_ref {p v x y : Nat} : (v + x * y) % p = fadd p v (fmul p x y) := by unfold fadd fmul; rw [Nat.add_mod_mod]
/-! ### Different places -/
open Go.Maps

theorem lawI : Keyed Tryd.prog 3 := int_keyed Tryd.underlying3
theorem wf_i64 {n : Int} (h1 : -9223372036854775808 ≤ n) (h2 : n ≤ 9223372036854775807) : (Lit.int .i64 n).wf = true := by
  rw [← IntWalk.wrap64_in n ⟨h1, h2⟩]; exact wrap64_wf n
def keyL (n : Nat) : Lit := .int .i64 (n : Int)
def Sn {H : Type} (L : List Nat) (k : Nat) : DataW H := setOf (.lit (.bool true)) ((L.take k).map keyL)
theorem Sn_zero {H : Type} (L : List Nat) : Sn (H := H) L 0 = .map [] := by simp [Sn, setOf]
theorem Sn_succ {H : Type} (L : List Nat) (k : Nat) (hk : k < L.length) : Sn (H := H) L (k + 1) = (Sn L k).put (keyL (nthN L k)) (.lit (.bool true)) := by
  unfold Sn
  rw [List.take_succ_eq_append_getElem hk, List.map_append, List.map_singleton, setOf_snoc, nthN_eq hk]
theorem keyL_key (n : Nat) : WideAt.IsKeyLit (keyL n) := trivial
theorem sameKey_keyL (a b : Nat) : (keyL a).sameKey (keyL b) = decide (a = b) := by
  by_cases h : a = b
  · subst h; rw [WideAt.sameKey_self (keyL_key a)]; simp
  · rw [sameKey_ne (fun e => h (by unfold keyL at e; injection e with _ e; omega))]; simp [h]
def addN (acc : List Nat) (x : Nat) : List Nat := if x ∈ acc then acc else acc ++ [x]
theorem addKey_map (acc : List Nat) (x : Nat) : addKey (acc.map keyL) (keyL x) = (addN acc x).map keyL := by
  have h : (acc.map keyL).any (fun y => y.sameKey (keyL x)) = decide (x ∈ acc) := by
    rw [Bool.eq_iff_iff]
    simp only [List.any_map, List.any_eq_true, Function.comp, sameKey_keyL, decide_eq_true_eq]
    exact ⟨fun ⟨y, hy, e⟩ => e ▸ hy, fun h => ⟨x, h, rfl⟩⟩
  unfold addKey addN
  rw [h]
  by_cases hx : x ∈ acc <;> simp [hx]
theorem foldAdd_map : ∀ (L acc : List Nat), (L.map keyL).foldl addKey (acc.map keyL) = (L.foldl addN acc).map keyL
  | [], _ => rfl
  | x :: L, acc => by rw [List.map_cons, List.foldl_cons, List.foldl_cons, addKey_map, foldAdd_map L]
theorem addN_len : ∀ (L acc : List Nat), acc.Nodup → (L.foldl addN acc).length ≤ acc.length + L.length ∧ ((L.foldl addN acc).length = acc.length + L.length ↔ (acc ++ L).Nodup)
  | [], acc, h => by simp [h]
  | x :: L, acc, h => by
    rw [List.foldl_cons]
    by_cases hx : x ∈ acc
    · have e : addN acc x = acc := if_pos hx
      rw [e]
      obtain ⟨h1, _⟩ := addN_len L acc h
      refine ⟨by simp; omega, ⟨fun h2 => by simp at h2; omega, fun h2 => ?_⟩⟩
      have := (List.nodup_append.1 h2).2.2 x hx x (List.mem_cons_self ..)
      exact absurd rfl this
    · have e : addN acc x = acc ++ [x] := if_neg hx
      rw [e]
      have hn : (acc ++ [x]).Nodup := List.nodup_append.2 ⟨h, by simp, fun a ha b hb => by simp at hb; subst hb; exact fun e => hx (e ▸ ha)⟩
      obtain ⟨h1, h2⟩ := addN_len L (acc ++ [x]) hn
      refine ⟨by simp at h1 ⊢; omega, ?_⟩
      rw [List.append_assoc] at h2
      simp only [List.singleton_append] at h2
      rw [← h2]; simp; omega
def difB (L : List Nat) : Bool := decide L.Nodup
theorem Sn_size (L : List Nat) : ((Maps.size (Sn (H := Unit) L L.length) : Nat) : Int) == (L.length : Int) ↔ L.Nodup := by
  have h := addN_len L [] List.nodup_nil
  have e : Maps.size (Sn (H := Unit) L L.length) = (L.foldl addN []).length := by
    unfold Sn
    rw [List.take_length, size_setOf _ _ (fun x hx => by obtain ⟨n, _, rfl⟩ := List.mem_map.1 hx; exact keyL_key n)]
    have := foldAdd_map L []
    rw [List.map_nil] at this
    rw [this, List.length_map]
  rw [e]
  simp only [List.nil_append, List.length_nil, Nat.zero_add] at h
  rw [← h.2]
  simp only [beq_iff_eq]; omega
theorem Sn_dif (L : List Nat) : (((Maps.size (Sn (H := Unit) L L.length) : Nat) : Int) == (L.length : Int)) = difB L := by
  unfold difB; rw [Bool.eq_iff_iff, Sn_size]; simp
/-! ### check, places -/
def plE (L : List Nat) : Int := if L.Nodup then 0 else 6
def ckE (L : List Nat) : Int := if L.length = 0 then 1 else plE L
theorem plE_yes {L : List Nat} (h : L.Nodup) : plE L = 0 := if_pos h
theorem plE_no {L : List Nat} (h : ¬ L.Nodup) : plE L = 6 := if_neg h
theorem ckE_zero {L : List Nat} (h : L.length = 0) : ckE L = 1 := if_pos h
theorem ckE_pos {L : List Nat} (h : ¬ L.length = 0) : ckE L = plE L := if_neg h
theorem nodup_snoc {L : List Nat} {i : Nat} (hi : i < L.length) (h : (L.take i).Nodup) (hne : ∀ j, j < i → nthN L i ≠ nthN L j) : (L.take (i + 1)).Nodup := by
  rw [List.take_succ_eq_append_getElem hi]
  refine List.nodup_append.2 ⟨h, by simp, fun a ha b hb => ?_⟩
  simp at hb; subst hb
  obtain ⟨j, hj, rfl⟩ := List.getElem_of_mem ha
  rw [List.length_take] at hj
  obtain ⟨hj1, hj2⟩ := Nat.lt_min.1 hj
  intro e
  refine hne j hj1 ?_
  rw [nthN_eq hi, nthN_eq hj2, ← e]; simp
theorem not_nodup {L : List Nat} {i j : Nat} (hi : i < L.length) (hj : j < i) (h : nthN L i = nthN L j) : ¬ L.Nodup := fun hn => by
  rw [nthN_eq hi, nthN_eq (by omega)] at h
  exact List.pairwise_iff_getElem.1 hn j i (by omega) hi hj h.symm
end Go.Proofs.YtjckpammcgeloaaDoor
namespace Go.Proofs.YtjckpammcgeloaaDoor
open Go.RowKit

theorem elem_one (p : Nat) (w : World) (hp : 1 ≤ p) (hp2 : p ≤ 2147483648) : Calls Tryd.prog 57 #[.int .i64 p, .int .i64 1] w (Ret (.int .i64 (fone p : Nat)) w) := by
  have h := element_nat p 1 w hp hp2
  exact h
theorem topN_skip {p i x : Nat} {xs : List Nat} {k : Nat} (h : k = i) : topN p i x xs (k + 1) = topN p i x xs k := by simp only [topN]; rw [if_pos h]
theorem topN_go {p i x : Nat} {xs : List Nat} {k : Nat} (h : ¬ k = i) : topN p i x xs (k + 1) = fmul p (topN p i x xs k) (fsub p x (nthN xs k)) := by simp only [topN]; rw [if_neg h]
theorem wN_of {p : Nat} {xs : List Nat} {i x a b : Nat} (ha : a = topN p i x xs xs.length) (hb : b = topN p i (nthN xs i) xs xs.length) : fmul p a (invV p b) = wN p xs i x := by rw [ha, hb]; rfl

/-- A new list, and an error. -/
def ListErr (L : List Nat) (er : Int) (w : World) (e : Ending) (w' : World) : Prop :=
  ∃ A c, e = .returned (.tuple #[.slice A L.length c, .int .i64 er]) ∧ NatsAt w' A L ∧ SlOK A c L ∧ (∀ b off, A = some ⟨b, off, none⟩ → w.heap.size ≤ b ∧ b < w'.heap.size) ∧ Below w.heap.size w w'
theorem ListErr.nil (er : Int) {w w' : World} (hb : Below w.heap.size w w') : ListErr [] er w (.returned (.tuple #[.slice none 0 0, .int .i64 er])) w' :=
  ⟨none, 0, rfl, NatsAt.nil _ _, SlOK.none0, fun b off e => (by cases e), hb⟩
def wsR (p : Nat) (xs : List Nat) (x : Nat) : List Nat := if ckE xs = 0 then wsN p xs x else []
theorem wsR_ok {p : Nat} {xs : List Nat} {x : Nat} (h : ckE xs = 0) : wsR p xs x = wsN p xs x := if_pos h
theorem wsR_no {p : Nat} {xs : List Nat} {x : Nat} (h : ¬ ckE xs = 0) : wsR p xs x = [] := if_neg h
theorem ckE_ok {xs : List Nat} (h0 : ¬ xs.length = 0) (hn : xs.Nodup) : ckE xs = 0 := by rw [ckE_pos h0, plE_yes hn]
theorem ckE_back {xs : List Nat} (h : ckE xs = 0) : 0 < xs.length ∧ xs.Nodup := by
  unfold ckE plE at h
  split at h
  · omega
  · split at h
    · exact ⟨by omega, by assumption⟩
    · omega
/-- A number, and an error. -/
def itE (xs ys : List Nat) : Int := if xs.length = ys.length then ckE xs else 1
def itV (p : Nat) (xs ys : List Nat) (x : Nat) : Nat := if itE xs ys = 0 then wgN p (wsN p xs x) ys xs.length else 0
theorem itE_len {xs ys : List Nat} (h : xs.length = ys.length) : itE xs ys = ckE xs := if_pos h
theorem itE_no {xs ys : List Nat} (h : ¬ xs.length = ys.length) : itE xs ys = 1 := if_neg h
theorem itV_ok {p : Nat} {xs ys : List Nat} {x : Nat} (h : itE xs ys = 0) : itV p xs ys x = wgN p (wsN p xs x) ys xs.length := if_pos h
theorem itV_no {p : Nat} {xs ys : List Nat} {x : Nat} (h : ¬ itE xs ys = 0) : itV p xs ys x = 0 := if_neg h
theorem pairB {w w' : World} {x y : Nat} {a b : Int} (h1 : x = y) (h2 : a = b) (hb : Below w.heap.size w w') : RetB (.tuple #[.int .i64 (y : Int), .int .i64 b]) w (.returned (.tuple #[.int .i64 (x : Int), .int .i64 a])) w' := by
  subst h1; subst h2; exact ⟨rfl, hb⟩
end Go.Proofs.YtjckpammcgeloaaDoor
namespace Go.Proofs.YtjckpammcgeloaaDoor
open Go.RowKit

theorem one_tmod (p : Nat) (hp : 1 ≤ p) : (1 : Int).tmod (p : Int) = (fone p : Nat) := by
  rw [Int.tmod_eq_emod_of_nonneg (by omega)]; rfl
theorem mul_tmod {p a b : Nat} : ((a : Int) * (b : Int)).tmod (p : Int) = (fmul p a b : Nat) := by
  rw [← Int.natCast_mul, Int.tmod_eq_emod_of_nonneg (by omega)]; rfl
theorem mul_wrap {p a b : Nat} (ha : a < p) (hb : b < p) (hp2 : p ≤ 2147483648) : IntKind.i64.wrap ((a : Int) * (b : Int)) = (a : Int) * (b : Int) := by
  have h := mulN_bound ha hb hp2
  have q1 : (a : Int) * (b : Int) = (a * b : Nat) := by push_cast; rfl
  exact IntWalk.i64_in _ (by omega)
theorem wsN_take {p : Nat} {L : List Nat} {x k : Nat} (h : k < L.length) : (wsN p L x).take (k + 1) = (wsN p L x).take k ++ [wN p L k x] := by
  have hk : k < (wsN p L x).length := by rw [wsN_len]; exact h
  rw [List.take_succ_eq_append_getElem hk, ← nthN_eq hk, wsN_nth p L x h]

theorem wgN_step {p : Nat} {W Y : List Nat} {k v : Nat} (h : v = wgN p W Y k) : (v + nthN W k * nthN Y k) % p = wgN p W Y (k + 1) := by rw [mul_ref, h]; rfl
end Go.Proofs.YtjckpammcgeloaaDoor
namespace Go.Proofs.YtjckpammcgeloaaDoor
open Go.RowKit

theorem below_undrew {B n : Nat} {w w' : World} (h : Below B (w.drewN n) w') : Below B w w' := ⟨h.os, h.tape, h.output, h.size, h.block⟩
theorem below_undrew1 {B : Nat} {w w' : World} (h : Below B w.drew w') : Below B w w' := ⟨h.os, h.tape, h.output, h.size, h.block⟩
theorem lit1_nats (w : World) (a : Nat) : NatBlk (w.alloc (.cells #[.int .i64 (a : Int)] 3)) w.heap.size [a] := heap_alloc_new w _
theorem lit2_nats (w : World) (a b : Nat) : NatBlk (w.alloc (.cells #[.int .i64 (a : Int), .int .i64 (b : Int)] 3)) w.heap.size [a, b] := heap_alloc_new w _
def thR (p : Nat) (xs ys : List Nat) : List Nat := if itE xs ys = 0 then thN p xs ys else []
theorem thR_ok {p : Nat} {xs ys : List Nat} (h : itE xs ys = 0) : thR p xs ys = thN p xs ys := if_pos h
theorem thR_no {p : Nat} {xs ys : List Nat} (h : ¬ itE xs ys = 0) : thR p xs ys = [] := if_neg h
theorem nw_zero (p : Nat) (xs ys : List Nat) : (nwN p xs ys 0).1 = [] ∧ (nwN p xs ys 0).2 = [fone p] := ⟨rfl, rfl⟩
theorem nw_succ {p : Nat} {xs ys : List Nat} {n : Nat} {S Z : List Nat} (h1 : S = (nwN p xs ys n).1) (h2 : Z = (nwN p xs ys n).2) :
    linN p S Z (fmul p (fsub p (nthN ys n) (evN p S (nthN xs n))) (invV p (evN p Z (nthN xs n)))) = (nwN p xs ys (n + 1)).1 ∧ mulN p Z [fsub p 0 (nthN xs n), fone p] = (nwN p xs ys (n + 1)).2 := by
  rw [h1, h2]; exact ⟨rfl, rfl⟩
theorem pair_lt {p a b : Nat} (ha : a < p) (hb : b < p) : ∀ c ∈ [a, b], c < p := by
  intro c hc; simp at hc; rcases hc with rfl | rfl <;> assumption

end Go.Proofs.YtjckpammcgeloaaDoor
namespace Go.Proofs.YtjckpammcgeloaaDoor
open Go.RowKit

/-- A list that lies somewhere, not in the dice. -/
structure Held (w : World) (D : Nat) (A : Option Addr) (c : Nat) (L : List Nat) : Prop where
  nats : NatsAt w A L
  ok : SlOK A c L
  off : ∀ b off, A = some ⟨b, off, none⟩ → b ≠ D
theorem Held.mv {w w' : World} {D : Nat} {A : Option Addr} {c : Nat} {L : List Nat} (h : Held w D A c L) (g : w.grownBy w' (some D)) : Held w' D A c L := ⟨h.nats.grown g h.off, h.ok, h.off⟩
theorem Held.below {w w' : World} {D : Nat} {A : Option Addr} {c : Nat} {L : List Nat} (h : Held w D A c L) (hb : Below w.heap.size w w') : Held w' D A c L := h.mv (grown_of_below hb)
/-- The dice, and what was there when the statement began. -/
structure Env (w0 w : World) (D : Nat) (R : List Int) : Prop where
  dice : DiceAt w D R
  low : w0.heap.size ≤ D
  below : Below w0.heap.size w0 w
theorem Env.lt {w0 w : World} {D : Nat} {R : List Int} (h : Env w0 w D R) : D < w.heap.size := h.dice.lt
theorem Env.mv {w0 w w' : World} {D : Nat} {R : List Int} (h : Env w0 w D R) (hb : Below w.heap.size w w') : Env w0 w' D R := ⟨h.dice.below hb, h.low, below_trans h.below hb⟩
theorem Env.next {w0 w w' : World} {D : Nat} {R R' : List Int} (h : Env w0 w D R) (hd : DiceAt w' D R') (g : w.grownBy w' (some D)) : Env w0 w' D R' :=
  ⟨hd, h.low, h.below.trans (grown_below g h.low h.below.size)⟩
theorem held_new {w w' : World} {D : Nat} {A : Option Addr} {c : Nat} {L : List Nat} (hD : D < w.heap.size) (hN : NatsAt w' A L) (hS : SlOK A c L) (hb : ∀ b off, A = some ⟨b, off, none⟩ → w.heap.size ≤ b ∧ b < w'.heap.size) : Held w' D A c L :=
  ⟨hN, hS, fun b off e => by have := hb b off e; omega⟩
def NextN (D : Nat) (n : Int) (R : List Int) (w : World) (e : Ending) (w' : World) : Prop := ∃ m : Nat, e = .returned (.int .i64 (m : Int)) ∧ (m : Int) < n ∧ DiceAt w' D R.tail ∧ w.grownBy w' (some D)
theorem next_nat (D : Nat) (R : List Int) (n : Int) (w : World) (h : DiceAt w D R) (h1 : 1 ≤ n) (hn : n ≤ 4611686018427387904) :
    Calls Tryd.prog 12 #[.pointer (some ⟨D, 0, none⟩), .int .i64 n] w (NextN D n R w) := by
  refine (next_any D R n w h hn).mono ?_
  rintro e w1 ⟨rfl, hD1, hg1⟩
  obtain ⟨x1, x2⟩ := nextV_range R n h1
  exact ⟨(nextV R n).toNat, by rw [Int.toNat_of_nonneg x1], by omega, hD1, hg1⟩
theorem elems_held {D n p : Nat} {w w' : World} {e : Ending} (hD : D < w.heap.size) (h : ElemsP D n p w e w') :
    ∃ A c L R', e = .returned (.slice A L.length c) ∧ L.length = n ∧ (∀ x ∈ L, x < p) ∧ Held w' D A c L ∧ DiceAt w' D R' ∧ w.grownBy w' (some D) := by
  obtain ⟨v, L, R', rfl, hL, hp, hown, hd, hg⟩ := h
  obtain ⟨A, c, rfl, h1, h2, h3⟩ := own_sl hown rfl
  exact ⟨A, c, L, R', rfl, hL, hp, held_new hD h1 h2 h3, hd, hg⟩
/-- A list made before the base of an append stands. -/
theorem NatsAt.app {w0 w w' : World} {A : Option Addr} {L : List Nat} (h0 : NatsAt w0 A L) (h : NatsAt w A L) (hb : Below w0.heap.size w w') : NatsAt w' A L := fun k hk => by
  obtain ⟨b, off, hA, hlt, -⟩ := h0 k hk
  obtain ⟨b', off', hA', hlt', hc⟩ := h k hk
  rw [hA] at hA'; injection hA' with e; injection e with e1 e2; subst e1; subst e2
  exact ⟨b, off, hA, Nat.lt_of_lt_of_le hlt' hb.size, (hb.cell hlt).trans hc⟩
theorem Held.app {w0 w w' : World} {D : Nat} {A : Option Addr} {c : Nat} {L : List Nat} (h0 : NatsAt w0 A L) (h : Held w D A c L) (hb : Below w0.heap.size w w') : Held w' D A c L := ⟨h0.app h.nats hb, h.ok, h.off⟩
theorem Env.app {w0 w w' : World} {D B : Nat} {R : List Int} (h : Env w0 w D R) (hB : D < B) (hb : Below B w w') : Env w0 w' D R :=
  ⟨h.dice.keep fun k hk => hb.block k (by omega), h.low, h.below.trans (hb.mono (by have := h.low; omega))⟩
theorem app_lt {p : Nat} {L M : List Nat} (h : ∀ x ∈ L, x < p) (g : ∀ x ∈ M, x < p) : ∀ x ∈ L ++ M, x < p := fun x hx => (List.mem_append.1 hx).elim (h x) (g x)
theorem own_held {w : World} {base D : Nat} {v : Value} {L : List Nat} (h : w.ownsRow base 3 1 v L.length (valsN L)) (hD : D < base) : ∃ A c, v = .slice A L.length c ∧ Held w D A c L := by
  obtain ⟨A, c, rfl, h1, h2, h3⟩ := own_sl h rfl
  exact ⟨A, c, rfl, h1, h2, fun b off e => by have := h3 b off e; omega⟩
theorem app_nats_at {ops : Array Oper} {rest : List Oper} {o : Oper} {a : Act} {Q : Exit → Act → World → Prop} (hgd : o.guard = none) (s x : Operand)
    (ho : o.op = .call { callee := .builtin .append, args := #[s, x], argTypes := #[22, 22] })
    {base : Nat} {w : World} {v : Value} {S T : List Nat} {ad : Addr} {c : Nat} (hs : a.eval s = v) (hown : w.ownsRow base 3 1 v S.length (valsN S))
    (hx : a.eval x = .slice (some ad) T.length c) (hT : ∀ j u, (valsN T)[j]? = some u → w.cell? (ad.add j) = some u) (hl : S.length + T.length ≤ 4294967296) (hbase : base ≤ w.heap.size)
    (h : ∀ v' w', w'.ownsRow base 3 1 v' (S ++ T).length (valsN (S ++ T)) → w.grownBy w' v.ownBlock → Below base w w' → (v'.ownBlock = v.ownBlock ∨ v'.ownBlock = some w.heap.size) → wpList Tryd.prog ops Q rest (a.put o.dst v') w') :
    wpList Tryd.prog ops Q (o :: rest) a w := by
  obtain ⟨i0, hi, hz0, hz1, hz2⟩ := info_parts info_int
  refine wpList_append_own_at w hgd s x 22 ho base 3 i0 _ 1 8 Tryd.underlying22 hi hz0 hz1 hz2 rfl (by omega) v S.length (valsN S) hs hown _ T.length c (valsN T) hx (by simp [valsN]) hT (valsN_one T) (by unfold maxLen; omega) (by omega) hbase ?_
  intro v' w' h2 h3 _ h5
  refine h v' w' ?_ h3 ((Below.refl _ _).grown h3 hbase (fun k hk => (hown.lt k hk).1)) h5
  rw [List.length_append]; simpa [valsN] using h2
theorem wsR_len (p : Nat) (xs : List Nat) (x : Nat) : (wsR p xs x).length ≤ xs.length := by
  unfold wsR; split
  · rw [wsN_len]; exact Nat.le_refl _
  · exact Nat.zero_le _
theorem thR_len (p : Nat) (xs ys : List Nat) : (thR p xs ys).length ≤ xs.length := by
  unfold thR; split
  · exact thN_len p xs ys
  · exact Nat.zero_le _
theorem sliced_low (A : Option Addr) (h c s : Nat) : sliced A 0 h c s = .slice A h c := by
  unfold sliced
  cases A with
  | none => simp
  | some a => simp [Addr.add]
attribute [local go_sem high] sliced_low
theorem shN_lt' {p : Nat} {L : List Nat} (h : ∀ x ∈ L, x < p) : ∀ x ∈ shN L, x < p := fun x hx => h x (List.mem_of_mem_take hx)
end Go.Proofs.YtjckpammcgeloaaDoor
namespace Go.Proofs.YtjckpammcgeloaaDoor
open Go.RowKit

/-- The odd part of a number, and how often it is halved. -/
def halve : Nat → Nat → Nat × Nat
  | 0, n => (n, 0)
  | f + 1, n => if n % 2 = 0 then ((halve f (n / 2)).1, (halve f (n / 2)).2 + 1) else (n, 0)
theorem halve_mul : ∀ f n, (halve f n).1 * 2 ^ (halve f n).2 = n
  | 0, n => by simp [halve]
  | f + 1, n => by
    unfold halve
    split
    · rename_i h
      simp only [Nat.pow_succ]
      rw [← Nat.mul_assoc, halve_mul f (n / 2)]; omega
    · simp
theorem halve_odd : ∀ f n, 1 ≤ n → n < 2 ^ f → (halve f n).1 % 2 = 1
  | 0, n, h1, h2 => by simp at h2; omega
  | f + 1, n, h1, h2 => by
    unfold halve
    split
    · rename_i h
      exact halve_odd f (n / 2) (by omega) (by rw [Nat.pow_succ] at h2; omega)
    · omega
def mrD (p : Nat) : Nat := (halve 31 (p - 1)).1
def mrS (p : Nat) : Nat := (halve 31 (p - 1)).2
theorem mr_mul (p : Nat) : mrD p * 2 ^ mrS p = p - 1 := halve_mul 31 (p - 1)
theorem mr_odd (p : Nat) (h : 2 ≤ p) (h2 : p ≤ 2147483648) : mrD p % 2 = 1 := halve_odd 31 (p - 1) (by omega) (by omega)
/-- Some of the numbers x^2, x^4 .. (n of them) is p - 1. -/
def mrGo (p : Nat) : Nat → Nat → Bool
  | 0, _ => false
  | n + 1, x => if fmul p x x = p - 1 then true else mrGo p n (fmul p x x)
def mrX (p b : Nat) : Nat := fpow p (b % p) (mrD p)
def mrPass (p b : Nat) : Bool := if mrX p b = 1 ∨ mrX p b = 0 ∨ mrX p b = p - 1 then true else mrGo p (mrS p - 1) (mrX p b)
def vGo (p : Nat) : List Nat → Bool
  | [] => true
  | b :: l => if p = b then true else if p % b = 0 then false else if mrPass p b then vGo p l else false
def validF (p : Nat) : Bool := if p < 2 ∨ 1073741824 < p ∨ (2 < p ∧ p % 2 = 0) then false else vGo p [2, 3, 5, 7]

theorem mr_first (p b : Nat) (h : mrX p b = 1 ∨ mrX p b = 0 ∨ mrX p b = p - 1) : true = mrPass p b := by unfold mrPass; rw [if_pos h]
theorem mr_later (p b : Nat) (h : ¬ (mrX p b = 1 ∨ mrX p b = 0 ∨ mrX p b = p - 1)) : mrGo p (mrS p - 1) (mrX p b) = mrPass p b := by unfold mrPass; rw [if_neg h]
theorem mrGo_yes (p n x : Nat) (h : fmul p x x = p - 1) : mrGo p (n + 1) x = true := by unfold mrGo; rw [if_pos h]
theorem mrGo_no (p n x : Nat) (h : ¬ fmul p x x = p - 1) : mrGo p (n + 1) x = mrGo p n (fmul p x x) := if_neg h
theorem two_pow_pos (k : Nat) : 1 ≤ 2 ^ k := Nat.one_le_two_pow
theorem halfs {d s k o : Nat} (hd : d % 2 = 1) (h : o * 2 ^ k = d * 2 ^ s) (hk : k ≤ s) : (o % 2 = 0 ↔ k < s) := by
  have h1 : o = d * 2 ^ (s - k) := by
    have h2 : d * 2 ^ s = d * 2 ^ (s - k) * 2 ^ k := by rw [Nat.mul_assoc, ← Nat.pow_add, show s - k + k = s by omega]
    rw [h2] at h
    exact Nat.eq_of_mul_eq_mul_right (two_pow_pos k) h
  constructor
  · intro h0
    rcases Nat.lt_or_ge k s with hlt | hge
    · exact hlt
    · rw [h1, show s - k = 0 by omega] at h0; simp at h0; omega
  · intro hlt
    rw [h1, show s - k = (s - k - 1) + 1 by omega, Nat.pow_succ, ← Nat.mul_assoc, Nat.mul_mod_left]
theorem half_step {o k n : Nat} (h : o * 2 ^ k = n) (h0 : o % 2 = 0) : o / 2 * 2 ^ (k + 1) = n := by
  rw [Nat.pow_succ, ← Nat.mul_assoc, Nat.mul_right_comm, show o / 2 * 2 = o by omega, h]

set_option maxHeartbeats 800000 in
theorem passes_any (p b : Nat) (w : World) (hp : 3 ≤ p) (hp2 : p ≤ 2147483647) (hb : b ≤ 1000) :
    Calls Tryd.prog 65 #[.int .i64 p, .int .i64 b] w (Ret (.bool (mrPass p b)) w) := by
  have HD := Lib.hid (mr_odd p (by omega) (by omega))
  have HM := Lib.hid (mr_mul p)
  have hbp : b % p < p := Nat.mod_lt _ (by omega)
  have hxl : mrX p b < p := fpow_lt (by omega) _ _
  have hs31 : mrS p ≤ 62 := by
    rcases Nat.lt_or_ge 62 (mrS p) with h | h
    · have h1 := Nat.pow_le_pow_right (n := 2) (by omega) (Nat.le_of_lt h)
      have h2 : 1 ≤ mrD p := by have := HD.out; omega
      have h3 := Nat.mul_le_mul h2 h1
      rw [HM.out] at h3; omega
    · exact h
  go_enter Tryd.func65, Tryd.ntmps65
  go_wp2_with fail
  go_loop [5, 6] (fun o t => ∃ o' k : Nat, o = .int .i64 o' ∧ t = .int .i64 k ∧ o' * 2 ^ k = p - 1 ∧ k ≤ mrS p ∧ 1 ≤ o' ∧ o' ≤ p) (fun o _ => (intOf o).toNat)
  case atStart => exact ⟨p - 1, 0, by go_num, rfl, by simp, by omega, by omega, by omega⟩
  case round =>
    obtain ⟨o, k, rfl, rfl, hinv, hk, ho1, ho2⟩ := hrel
    have HI := Lib.hid hinv
    clear hinv
    have HH := Lib.hid (halfs HD.out (HI.out.trans HM.out.symm) hk)
    by_cases h0 : o % 2 = 0
    · have hk' := HH.out.1 h0
      have t1 : ((o : Int) % 2 == 0) = true := by simp; omega
      go_wp2_with fail
      go_round
      case rel => exact ⟨o / 2, k + 1, by go_num, by go_num, half_step HI.out h0, by omega, by omega, by omega⟩
      case measure => simp [intOf]; omega
    · have hk' : k = mrS p := Nat.le_antisymm hk (Nat.not_lt.1 fun h => h0 (HH.out.2 h))
      subst hk'
      have ho : o = mrD p := Nat.eq_of_mul_eq_mul_right (two_pow_pos (mrS p)) (HI.out.trans HM.out.symm)
      subst ho
      have t1 : ((mrD p : Int) % 2 == 0) = false := by simp; omega
      go_wp2_with fail
      refine ret_pure (fpower_any p (b % p) (mrD p) _ (by omega) (by omega) hbp (by omega)) ?_
      rw [show fpow p (b % p) (mrD p) = mrX p b from rfl]
      by_cases hx : mrX p b = 1 ∨ mrX p b = 0 ∨ mrX p b = p - 1
      · have HP := Lib.hid (mr_first p b hx)
        rcases hx with h | h | h
        · have t2 : ((mrX p b : Int) == 1) = true := by simp; omega
          have HX := Lib.hid h
          clear h
          go_wp2_with fail
          go_ret
          exact Ret.bool HP.out
        · have t2 : ((mrX p b : Int) == 1) = false := by simp; omega
          have t3 : ((mrX p b : Int) == 0) = true := by simp; omega
          have HX := Lib.hid h
          clear h
          go_wp2_with fail
          go_ret
          exact Ret.bool HP.out
        · have t4 : ((mrX p b : Int) == (p : Int) - 1) = true := by simp; omega
          by_cases h1 : mrX p b = 1
          · have t2 : ((mrX p b : Int) == 1) = true := by simp; omega
            have HX := Lib.hid h
            have HX1 := Lib.hid h1
            clear h h1
            go_wp2_with fail
            go_ret
            exact Ret.bool HP.out
          · have t2 : ((mrX p b : Int) == 1) = false := by simp; omega
            have t3 : ((mrX p b : Int) == 0) = false := by simp; omega
            have HX := Lib.hid h
            clear h h1
            go_wp2_with fail
            go_ret
            exact Ret.bool HP.out
      · have HP := Lib.hid (mr_later p b hx)
        have t2 : ((mrX p b : Int) == 1) = false := by simp; omega
        have t3 : ((mrX p b : Int) == 0) = false := by simp; omega
        have t4 : ((mrX p b : Int) == (p : Int) - 1) = false := by simp; omega
        clear hx
        go_wp2_with fail
        generalize hX : mrX p b = X at *
        clear t2 t3 t4 hX
        go_loop [7, 38] (fun x i => ∃ x' m : Nat, x = .int .i64 x' ∧ i = .int .i64 m ∧ x' < p ∧ (m ≤ mrS p - 1) ∧ mrGo p (mrS p - 1 - m) x' = mrPass p b) (fun _ i => 70 - (intOf i).toNat)
        case atStart => exact ⟨X, 0, rfl, rfl, hxl, by omega, HP.out⟩
        case round =>
          obtain ⟨x, m, rfl, rfl, hxp, hm, hgo⟩ := hrel
          have HG := Lib.hid hgo
          clear hgo
          by_cases hlt : (m : Int) < (mrS p : Int) - 1
          · go_wp2_with fail
            refine ret_pure (mul_nat p x x _ (by omega) (by omega) hxp hxp) ?_
            have hfl : fmul p x x < p := fmul_lt (by omega) _ _
            by_cases hq : fmul p x x = p - 1
            · have t5 : ((fmul p x x : Int) == (p : Int) - 1) = true := by simp; omega
              have HR := Lib.hid (show true = mrPass p b by
                rw [← HG.out, show mrS p - 1 - m = (mrS p - 1 - m - 1) + 1 by omega, mrGo_yes p _ x hq])
              clear hq
              go_wp2_with fail
              go_ret
              exact Ret.bool HR.out
            · have t5 : ((fmul p x x : Int) == (p : Int) - 1) = false := by simp; omega
              have HR := Lib.hid (show mrGo p (mrS p - 1 - (m + 1)) (fmul p x x) = mrPass p b by
                rw [← HG.out, show mrS p - 1 - m = (mrS p - 1 - (m + 1)) + 1 by omega, mrGo_no p _ x hq])
              clear hq
              go_wp2_with fail
              go_round
              case rel => exact ⟨fmul p x x, m + 1, rfl, by go_num, hfl, by omega, HR.out⟩
              case measure => simp [intOf]; omega
          · go_wp2_with fail
            go_ret
            refine Ret.bool ?_
            rw [← HG.out, show mrS p - 1 - m = 0 by omega]; rfl
end Go.Proofs.YtjckpammcgeloaaDoor
namespace Go.Proofs.YtjckpammcgeloaaDoor
open Go.RowKit

/-- The table of bases holds 2, 3, 5, 7. -/
def Bases (w : World) : Prop :=
  0 < w.heap.size ∧ w.cell? ⟨0, 0, none⟩ = some (.int .i64 2) ∧ w.cell? ⟨0, 1, none⟩ = some (.int .i64 3) ∧ w.cell? ⟨0, 2, none⟩ = some (.int .i64 5) ∧ w.cell? ⟨0, 3, none⟩ = some (.int .i64 7)
theorem Bases.below {w w' : World} {B : Nat} (h : Bases w) (hb : Below B w w') (hB : 0 < B) : Bases w' := by
  obtain ⟨h0, h1, h2, h3, h4⟩ := h
  exact ⟨Nat.lt_of_lt_of_le h0 hb.size, (hb.cell hB).trans h1, (hb.cell hB).trans h2, (hb.cell hB).trans h3, (hb.cell hB).trans h4⟩
theorem Bases.keep {w w' : World} (h : Bases w) (hb : Below w.heap.size w w') : Bases w' := h.below hb h.1

def validI (p : Int) : Bool := if p < 2 then false else validF p.toNat
theorem validI_small {p : Int} (h : p < 2) : false = validI p := by unfold validI; rw [if_pos h]
theorem validI_nat {p : Nat} (h : 2 ≤ p) : validF p = validI (p : Int) := by unfold validI; rw [if_neg (by omega), Int.toNat_natCast]
theorem validI_big {p : Int} (h : 1073741824 < p) : false = validI p := by
  unfold validI; rw [if_neg (by omega)]; unfold validF; rw [if_pos]; omega
theorem validF_even {p : Nat} (h : 2 < p ∧ p % 2 = 0) : false = validF p := by unfold validF; rw [if_pos (.inr (.inr h))]
theorem validF_go {p : Nat} (h : ¬ (p < 2 ∨ 1073741824 < p ∨ (2 < p ∧ p % 2 = 0))) : vGo p [2, 3, 5, 7] = validF p := by unfold validF; rw [if_neg h]
theorem vGo_eq {p b : Nat} {l : List Nat} (h : p = b) : vGo p (b :: l) = true := if_pos h
theorem vGo_div {p b : Nat} {l : List Nat} (h : ¬ p = b) (h2 : p % b = 0) : vGo p (b :: l) = false := by unfold vGo; rw [if_neg h, if_pos h2]
theorem vGo_pass {p b : Nat} {l : List Nat} (h : ¬ p = b) (h2 : ¬ p % b = 0) (h3 : mrPass p b = true) : vGo p (b :: l) = vGo p l := by
  conv => lhs; unfold vGo
  rw [if_neg h, if_neg h2, if_pos h3]
theorem vGo_fail {p b : Nat} {l : List Nat} (h : ¬ p = b) (h2 : ¬ p % b = 0) (h3 : mrPass p b = false) : vGo p (b :: l) = false := by
  unfold vGo; rw [if_neg h, if_neg h2, if_neg (by rw [h3]; simp)]
def basis (k : Nat) : Nat := [2, 3, 5, 7].getD k 0
theorem basis_drop (k : Nat) (h : k < 4) : [2, 3, 5, 7].drop k = basis k :: [2, 3, 5, 7].drop (k + 1) := by
  have : k = 0 ∨ k = 1 ∨ k = 2 ∨ k = 3 := by omega
  rcases this with rfl | rfl | rfl | rfl <;> rfl
theorem basis_bd (k : Nat) (h : k < 4) : 2 ≤ basis k ∧ basis k ≤ 7 := by
  have : k = 0 ∨ k = 1 ∨ k = 2 ∨ k = 3 := by omega
  rcases this with rfl | rfl | rfl | rfl <;> decide
theorem ib0 (w : World) : (Instr.index 86 (.agg #[.int .i64 2, .int .i64 3, .int .i64 5, .int .i64 7]) (.int .i64 0)).run Tryd.prog w = .ok (.int .i64 2) w := by kernel_rfl
theorem ib1 (w : World) : (Instr.index 86 (.agg #[.int .i64 2, .int .i64 3, .int .i64 5, .int .i64 7]) (.int .i64 1)).run Tryd.prog w = .ok (.int .i64 3) w := by kernel_rfl
theorem ib2 (w : World) : (Instr.index 86 (.agg #[.int .i64 2, .int .i64 3, .int .i64 5, .int .i64 7]) (.int .i64 2)).run Tryd.prog w = .ok (.int .i64 5) w := by kernel_rfl
theorem ib3 (w : World) : (Instr.index 86 (.agg #[.int .i64 2, .int .i64 3, .int .i64 5, .int .i64 7]) (.int .i64 3)).run Tryd.prog w = .ok (.int .i64 7) w := by kernel_rfl
theorem index_bases (k : Nat) (h : k < 4) (w : World) : (Instr.index 86 (.agg #[.int .i64 2, .int .i64 3, .int .i64 5, .int .i64 7]) (.int .i64 k)).run Tryd.prog w = .ok (.int .i64 (basis k : Nat)) w := by
  have : k = 0 ∨ k = 1 ∨ k = 2 ∨ k = 3 := by omega
  rcases this with rfl | rfl | rfl | rfl
  · exact ib0 w
  · exact ib1 w
  · exact ib2 w
  · exact ib3 w

set_option maxHeartbeats 800000 in
theorem valid_mid (p : Nat) (w : World) (hB : Bases w) (h2 : 2 ≤ p) (h3 : p ≤ 1073741824) (hodd : ¬ (2 < p ∧ p % 2 = 0)) :
    Calls Tryd.prog 59 #[.int .i64 p] w (Ret (.bool (validI p)) w) := by
  obtain ⟨_, b0, b1, b2, b3⟩ := hB
  have HV := Lib.hid ((validF_go (by omega)).trans (validI_nat h2))
  have d1 : decide ((p : Int) < 2) = false := decide_eq_false (by omega)
  have d2 : decide (1073741824 < (p : Int)) = false := decide_eq_false (by omega)
  have hs : p = 2 ∨ 3 ≤ p ∧ p % 2 = 1 := by omega
  have hS : Hid (p = 2 ∨ 3 ≤ p ∧ p % 2 = 1) := hs
  have t1 : ((p : Int) % 2 == 0) = decide (p = 2) := by
    rcases hs with h | h
    · subst h; rfl
    · rw [decide_eq_false (by omega)]; simp; omega
  have t0 : decide (2 < (p : Int)) = decide (3 ≤ p) := by
    by_cases h : 3 ≤ p
    · rw [decide_eq_true h, decide_eq_true (by omega)]
    · rw [decide_eq_false h, decide_eq_false (by omega)]
  clear hs
  by_cases hp2 : p = 2
  · subst hp2
    go_enter Tryd.func59, Tryd.ntmps59
    go_wp2_with fail
    refine wp_loop_rounds 1 ?_
    rw [rounds_succ]
    have i0 := ib0
    go_wp2_with fail
    go_ret
    exact Ret.bool HV.out
  · have hp3 : 3 ≤ p := by omega
    rw [decide_eq_false hp2] at t1
    clear t0
    go_enter Tryd.func59, Tryd.ntmps59
    go_wp2_with fail
    go_loop [21] (fun i => ∃ k : Nat, k ≤ 4 ∧ i = .int .i64 k ∧ vGo p ([2, 3, 5, 7].drop k) = validI p) (fun i => 4 - (intOf i).toNat)
    case atStart => exact ⟨0, by omega, rfl, HV.out⟩
    case round =>
      obtain ⟨k, hk, rfl, hgo⟩ := hrel
      have HG := Lib.hid hgo
      clear hgo t1 d1 d2
      by_cases hk4 : k < 4
      · have hix := index_bases k hk4
        obtain ⟨bb1, bb2⟩ := basis_bd k hk4
        have HD := Lib.hid (basis_drop k hk4)
        generalize hbas : basis k = b at *
        clear hbas
        by_cases hpb : p = b
        · have t2 : ((p : Int) == (b : Int)) = true := by simp; omega
          have HR := Lib.hid (show true = validI p by rw [← HG.out, HD.out, vGo_eq hpb])
          clear hpb
          go_wp2_with fail
          go_ret
          exact Ret.bool HR.out
        · have t2 : ((p : Int) == (b : Int)) = false := by simp; omega
          by_cases hdiv : p % b = 0
          · have t3 : ((p : Int) % (b : Int) == 0) = true := by rw [← Int.natCast_emod]; simp; omega
            have HR := Lib.hid (show false = validI p by rw [← HG.out, HD.out, vGo_div hpb hdiv])
            clear hpb hdiv
            go_wp2_with fail
            go_ret
            exact Ret.bool HR.out
          · have t3 : ((p : Int) % (b : Int) == 0) = false := by rw [← Int.natCast_emod]; simp; omega
            have HP := Lib.hid (fun w => passes_any p b w hp3 (by omega) (by omega))
            cases hmr : mrPass p b
            · have HR := Lib.hid (show false = validI p by rw [← HG.out, HD.out, vGo_fail hpb hdiv hmr])
              have HM := Lib.hid hmr
              clear hpb hdiv hmr
              go_wp2_with fail
              refine ret_pure (HP.out _) ?_
              rw [HM.out]
              go_wp2_with fail
              go_ret
              exact Ret.bool HR.out
            · have HR := Lib.hid (show vGo p ([2, 3, 5, 7].drop (k + 1)) = validI p by rw [← HG.out, HD.out, vGo_pass hpb hdiv hmr])
              have HM := Lib.hid hmr
              clear hpb hdiv hmr
              go_wp2_with fail
              refine ret_pure (HP.out _) ?_
              rw [HM.out]
              go_wp2_with fail
              go_round
              case rel => exact ⟨k + 1, by omega, by go_num, HR.out⟩
              case measure => simp [intOf]; omega
      · have HR := Lib.hid (show true = validI p by rw [← HG.out, show k = 4 by omega]; rfl)
        go_wp2_with fail
        go_ret
        exact Ret.bool HR.out

set_option maxHeartbeats 400000 in
theorem valid_any (p : Int) (w : World) (hB : Bases w) : Calls Tryd.prog 59 #[.int .i64 p] w (Ret (.bool (validI p)) w) := by
  by_cases h1 : p < 2
  · have HV := Lib.hid (validI_small h1)
    go_enter Tryd.func59, Tryd.ntmps59
    go_wp2
    go_ret
    exact Ret.bool HV.out
  · by_cases h2 : 1073741824 < p
    · have HV := Lib.hid (validI_big h2)
      go_enter Tryd.func59, Tryd.ntmps59
      go_wp2
      go_ret
      exact Ret.bool HV.out
    · obtain ⟨p, rfl⟩ := Int.eq_ofNat_of_zero_le (show 0 ≤ p by omega)
      by_cases h3 : 2 < p ∧ p % 2 = 0
      · have HV := Lib.hid ((validF_even h3).trans (validI_nat (by omega)))
        have t1 : ((p : Int) % 2 == 0) = true := by simp; omega
        have t2 : 2 < (p : Int) := by omega
        clear h3
        go_enter Tryd.func59, Tryd.ntmps59
        go_wp2
        go_ret
        exact Ret.bool HV.out
      · exact valid_mid p w hB (by omega) (by omega) h3
end Go.Proofs.YtjckpammcgeloaaDoor
namespace Go.Proofs.YtjckpammcgeloaaDoor
open Go.RowKit

/-! ### Lists of elements -/
def inside (p : Int) (L : List Int) : Bool := L.all fun n => decide (0 ≤ n) && decide (n < p)
def elemsI (p : Int) (L : List Int) (v : Bool) : Bool := inside p L && v
theorem inside_at {p : Int} {L : List Int} {k : Nat} (hk : k < L.length) (h : nth L k < 0 ∨ p ≤ nth L k) (v : Bool) : false = elemsI p L v := by
  have : inside p L = false := by
    unfold inside
    rw [List.all_eq_false]
    refine ⟨nth L k, by rw [nth_eq hk]; exact List.getElem_mem hk, ?_⟩
    simp; omega
  unfold elemsI; rw [this]; rfl
theorem inside_all {p : Int} {L : List Int} (h : ∀ k, k < L.length → 0 ≤ nth L k ∧ nth L k < p) (v : Bool) : v = elemsI p L v := by
  have : inside p L = true := by
    unfold inside
    rw [List.all_eq_true]
    intro x hx
    obtain ⟨k, hk, rfl⟩ := List.getElem_of_mem hx
    have := h k hk
    rw [nth_eq hk] at this
    simp; exact this
  unfold elemsI; rw [this]; rfl

/-! ### The document's primes -/
noncomputable def primeV (p : Int) : Bool := @decide (p ≤ 1073741824 ∧ PrimeN p.toNat) (Classical.propDecidable _)
theorem primeV_true {p : Nat} (h : p ≤ 1073741824) (hp : PrimeN p) : true = primeV (p : Int) := by
  unfold primeV; exact (@decide_eq_true _ (Classical.propDecidable _) ⟨by omega, by rw [Int.toNat_natCast]; exact hp⟩).symm
theorem primeV_false {p : Int} (h : ¬ (p ≤ 1073741824 ∧ PrimeN p.toNat)) : false = primeV p := by
  unfold primeV; exact (@decide_eq_false _ (Classical.propDecidable _) h).symm
theorem prime_of_small {p k : Nat} (hp : 2 ≤ p) (hk : p < k * k) (h : ∀ e, 2 ≤ e → e < k → ¬ e ∣ p) : PrimeN p := by
  refine ⟨hp, fun d hd => ?_⟩
  rcases Nat.lt_or_ge d 2 with h2 | h2
  · have := Nat.pos_of_dvd_of_pos hd (by omega); omega
  · obtain ⟨m, rfl⟩ := hd
    rcases Nat.lt_or_ge d k with h3 | h3
    · exact absurd (Nat.dvd_mul_right d m) (h d h2 h3)
    · rcases Nat.lt_or_ge m 2 with h4 | h4
      · have : m = 1 := by
          rcases Nat.eq_zero_or_pos m with h5 | h5
          · subst h5; rw [Nat.mul_zero] at hp; omega
          · omega
        subst this; right; omega
      · rcases Nat.lt_or_ge m k with h5 | h5
        · exact absurd (Nat.dvd_mul_left m d) (h m h4 h5)
        · have := Nat.mul_le_mul h3 h5; omega
theorem not_prime_of_dvd {p k : Nat} (hk : 2 ≤ k) (hkk : k * k ≤ p) (hd : k ∣ p) : ¬ PrimeN p := fun h => by
  rcases h.2 k hd with h1 | h1
  · omega
  · have := Nat.mul_le_mul_left k hk; omega

set_option maxHeartbeats 1000000 in
theorem refValid_any (p : Int) (w : World) : Calls Tryd.prog 60 #[.int .i64 p] w (Ret (.bool (primeV p)) w) := by
  by_cases h1 : p < 2
  · have HV := Lib.hid (primeV_false (p := p) (fun h => by have := h.2.1; omega))
    go_enter Tryd.func60, Tryd.ntmps60
    go_wp2
    go_ret
    exact Ret.bool HV.out
  · by_cases h2 : 1073741824 < p
    · have HV := Lib.hid (primeV_false (p := p) (fun h => by have := h.1; omega))
      go_enter Tryd.func60, Tryd.ntmps60
      go_wp2
      go_ret
      exact Ret.bool HV.out
    · obtain ⟨p, rfl⟩ := Int.eq_ofNat_of_zero_le (show 0 ≤ p by omega)
      go_enter Tryd.func60, Tryd.ntmps60
      go_wp2_with fail
      go_loop [3] (fun d => ∃ k : Nat, 2 ≤ k ∧ k ≤ 32769 ∧ d = .int .i64 k ∧ ∀ e, 2 ≤ e → e < k → ¬ e ∣ p) (fun d => 32770 - (intOf d).toNat)
      case atStart => exact ⟨2, by omega, by omega, rfl, fun e h1 h2 => absurd h1 (by omega)⟩
      case round =>
        obtain ⟨k, hk1, hk2, rfl, hpre⟩ := hrel
        have HP := Lib.hid hpre
        clear hpre
        have hb : k * k ≤ 32769 * 32769 := Nat.mul_le_mul hk2 hk2
        have x1 : (k : Int) * k = (k * k : Nat) := by push_cast; rfl
        have w1 : IntKind.i64.wrap ((k : Int) * k) = (k : Int) * k := IntWalk.i64_in _ (by omega)
        have r1 : (p : Int).tmod k = (p : Int) % k := Int.tmod_eq_emod_of_nonneg (by omega)
        have z1 : ¬ (k : Int) = 0 := by omega
        have z2 : ((k : Int) == 0) = false := by simp; omega
        have b1 := Int.emod_nonneg (p : Int) z1
        have b2 := Int.emod_lt_of_pos (p : Int) (b := (k : Int)) (by omega)
        by_cases hkk : k * k ≤ p
        · have hk3 : k ≤ 32768 := by
            rcases Nat.lt_or_ge k 32769 with h | h
            · omega
            · have := Nat.mul_le_mul h h; omega
          have c1 : (k : Int) * k ≤ p := by omega
          by_cases hd : k ∣ p
          · have HV := Lib.hid (primeV_false (p := (p : Int)) (fun h => not_prime_of_dvd hk1 hkk hd (by have := h.2; rwa [Int.toNat_natCast] at this)))
            have t1 : ((p : Int) % k == 0) = true := by rw [← Int.natCast_emod, Nat.mod_eq_zero_of_dvd hd]; rfl
            clear hd x1 hkk hb
            go_wp2_with fail
            go_ret
            exact Ret.bool HV.out
          · have t1 : ((p : Int) % k == 0) = false := by
              rw [← Int.natCast_emod]; simp
              exact fun e => hd (Nat.dvd_of_mod_eq_zero (by omega))
            have HD := Lib.hid hd
            clear hd x1 hkk hb
            go_wp2_with fail
            go_round
            case rel =>
              refine ⟨k + 1, by omega, by omega, by go_num, fun e h1 h2 => ?_⟩
              by_cases hek : e = k
              · subst hek; exact HD.out
              · exact HP.out e h1 (by omega)
            case measure => simp [intOf]; omega
        · have HV := Lib.hid (primeV_true (p := p) (by omega) (prime_of_small (by omega) (by omega) HP.out))
          have c1 : ¬ (k : Int) * k ≤ p := by omega
          clear x1 hkk hb
          go_wp2_with fail
          go_ret
          exact Ret.bool HV.out

end Go.Proofs.YtjckpammcgeloaaDoor
namespace Go.Proofs.YtjckpammcgeloaaDoor
open Go.RowKit

theorem sqrt_one {p x : Nat} (hp : PrimeN p) (hx : x < p) (h : fmul p x x = 1) : x = 1 ∨ x = p - 1 := by
  have h2 := hp.1
  rcases Nat.eq_zero_or_pos x with h0 | h0
  · subst h0; unfold fmul at h; simp at h
  · have hd : p ∣ (x - 1) * (x + 1) := by
      have e : (x - 1) * (x + 1) = x * x - 1 := by
        obtain ⟨y, rfl⟩ : ∃ y, x = y + 1 := ⟨x - 1, by omega⟩
        simp only [Nat.add_sub_cancel, Nat.add_mul, Nat.mul_add]; omega
      rw [e]
      have hxx : 1 ≤ x * x := Nat.mul_pos h0 h0
      refine (Nat.dvd_iff_mod_eq_zero).2 ?_
      unfold fmul at h
      have := Nat.sub_mod_eq_zero_of_mod_eq (m := x * x) (n := 1) (k := p) (by rw [h, Nat.mod_eq_of_lt (by omega)])
      exact this
    rcases hp.euclid hd with h1 | h1
    · left
      rcases Nat.eq_zero_or_pos (x - 1) with h3 | h3
      · omega
      · have := Nat.le_of_dvd h3 h1; omega
    · right
      have := Nat.le_of_dvd (by omega) h1; omega
theorem mrGo_prime {p : Nat} (hp : PrimeN p) : ∀ k x, x < p → ¬ x = 1 → ¬ x = p - 1 → fpow p x (2 ^ (k + 1)) = 1 → mrGo p k x = true
  | 0, x, hx, h1, h2, h => by
    exfalso
    have : fmul p x x = 1 := by rw [← h]; unfold fmul fpow; rw [Nat.zero_add, Nat.pow_one, Nat.pow_two]
    rcases sqrt_one hp hx this with e | e
    · exact h1 e
    · exact h2 e
  | k + 1, x, hx, h1, h2, h => by
    by_cases hy : fmul p x x = p - 1
    · exact mrGo_yes p k x hy
    · rw [mrGo_no p k x hy]
      have hp1 := hp.1
      refine mrGo_prime hp k _ (fmul_lt (by omega) _ _) (fun e => ?_) hy ?_
      · rcases sqrt_one hp hx e with e | e
        · exact h1 e
        · exact h2 e
      · have e : fpow p (fmul p x x) (2 ^ (k + 1)) = fpow p x (2 ^ (k + 1 + 1)) := by
          unfold fmul fpow
          rw [← Nat.pow_mod, ← Nat.pow_two, ← Nat.pow_mul, ← Nat.pow_succ']
        rw [e]; exact h
theorem mrPass_prime {p b : Nat} (hp : PrimeN p) (h3 : 3 ≤ p) (hb : ¬ p ∣ b) : mrPass p b = true := by
  by_cases h : mrX p b = 1 ∨ mrX p b = 0 ∨ mrX p b = p - 1
  · exact (mr_first p b h).symm
  · rw [← mr_later p b h]
    have hs : 1 ≤ mrS p := by
      rcases Nat.eq_zero_or_pos (mrS p) with h0 | h0
      · exfalso
        have hm := mr_mul p
        rw [h0, Nat.pow_zero, Nat.mul_one] at hm
        have hx : mrX p b = 1 := by
          unfold mrX fpow
          rw [hm, ← Nat.pow_mod]; exact flt hp hb
        exact h (.inl hx)
      · exact h0
    refine mrGo_prime hp _ _ (fpow_lt (by omega) _ _) (fun e => h (.inl e)) (fun e => h (.inr (.inr e))) ?_
    rw [show mrS p - 1 + 1 = mrS p by omega]
    unfold mrX fpow
    rw [← Nat.pow_mod, ← Nat.pow_mul, mr_mul, ← Nat.pow_mod]
    exact flt hp hb
theorem vGo_prime {p : Nat} (hp : PrimeN p) (h3 : 3 ≤ p) : ∀ l : List Nat, (∀ b ∈ l, PrimeN b) → vGo p l = true
  | [], _ => rfl
  | b :: l, hl => by
    by_cases hpb : p = b
    · exact vGo_eq hpb
    · have hb := hl b (by simp)
      have hnd : ¬ p % b = 0 := fun e => by
        rcases hp.2 b (Nat.dvd_of_mod_eq_zero e) with e | e
        · have := hb.1; omega
        · exact hpb e.symm
      have hnb : ¬ p ∣ b := fun e => by
        rcases hb.2 p e with e | e
        · omega
        · exact hpb e
      rw [vGo_pass hpb hnd (mrPass_prime hp h3 hnb)]
      exact vGo_prime hp h3 l (fun c hc => hl c (by simp [hc]))
theorem validI_prime {p : Nat} (hp : PrimeN p) (h : p ≤ 1073741824) : validI (p : Int) = true := by
  have h2 := hp.1
  rw [← validI_nat h2]
  by_cases he : p = 2
  · subst he; rfl
  · have hodd : ¬ (2 < p ∧ p % 2 = 0) := fun ⟨h4, h5⟩ => by
      rcases hp.2 2 (Nat.dvd_of_mod_eq_zero h5) with e | e
      · omega
      · omega
    rw [← validF_go (by omega)]
    refine vGo_prime hp (by omega) _ (fun b hb => ?_)
    simp at hb
    rcases hb with rfl | rfl | rfl | rfl
    · exact prime_2
    · exact prime_3
    · exact prime_5
    · exact prime_7
end Go.Proofs.YtjckpammcgeloaaDoor
namespace Go.Proofs.YtjckpammcgeloaaDoor
open Go.RowKit

theorem info_share : (Tryd.prog.info? 35).map (fun i => (i.zero, i.size, i.bytes)) = some (some (.agg #[.int .i64 0, .slice none 0 0]), 2, 32) := by kernel_rfl

/-! ### Lists of shares in memory -/
abbrev Shr := Int × List Int
def hS (S : List Shr) (k : Nat) : Int := (S.getD k (0, [])).1
def vS (S : List Shr) (k : Nat) : List Int := (S.getD k (0, [])).2
/-- What a slice may look like. -/
structure IOK (A : Option Addr) (c n : Nat) : Prop where
  len : n ≤ c
  cap : c ≤ maxLen
  nil : A = none → c = 0
  spot : n = 0 ∨ ∀ a, A = some a → a.spot = none
theorem IOK.none0 : IOK none 0 0 := ⟨Nat.le_refl _, Nat.zero_le _, fun _ => rfl, .inl rfl⟩
theorem SlOK.iok {A : Option Addr} {c : Nat} {L : List Nat} (h : SlOK A c L) : IOK A c L.length := ⟨h.len, h.cap, h.nil, .inr h.spot⟩
theorem IOK.take {A : Option Addr} {c n : Nat} (h : IOK A c n) (k : Nat) (hk : k ≤ n) : IOK A c k := ⟨Nat.le_trans hk h.len, h.cap, h.nil, h.spot.elim (fun e => .inl (by omega)) .inr⟩
/-- A slice of numbers; the blocks that it lies in satisfy P. -/
structure IntsP (P : Nat → Prop) (w : World) (A : Option Addr) (c : Nat) (L : List Int) : Prop where
  ints : IntsAt w A L
  ok : IOK A c L.length
  off : ∀ b off, A = some ⟨b, off, none⟩ → L.length = 0 ∨ P b
theorem IntsP.nil (P : Nat → Prop) (w : World) : IntsP P w none 0 [] := ⟨IntsAt.nil _ _, IOK.none0, fun b off e => by cases e⟩
/-- All blocks that satisfy P stand. -/
structure Kept (P : Nat → Prop) (w w' : World) : Prop where
  size : w.heap.size ≤ w'.heap.size
  block : ∀ b, P b → b < w.heap.size → w'.heap[b]? = w.heap[b]?
theorem Kept.below {P : Nat → Prop} {w w' : World} (hb : Below w.heap.size w w') : Kept P w w' := ⟨hb.size, fun b _ h => hb.block b h⟩
theorem Kept.mv {D : Nat} {w w' : World} (hg : w.grownBy w' (some D)) : Kept (· ≠ D) w w' := ⟨hg.size, fun b hb h => hg.block b h (fun e => by injection e with e; exact hb e)⟩
theorem Kept.app {B : Nat} {w w' : World} (hb : Below B w w') : Kept (· < B) w w' := ⟨hb.size, fun b h _ => hb.block b h⟩
theorem Kept.trans {P : Nat → Prop} {w w1 w2 : World} (h : Kept P w w1) (g : Kept P w1 w2) : Kept P w w2 := ⟨Nat.le_trans h.size g.size, fun b hP hb => (g.block b hP (Nat.lt_of_lt_of_le hb h.size)).trans (h.block b hP hb)⟩
theorem IntsAt.keep {P : Nat → Prop} {w w' : World} {A : Option Addr} {L : List Int} (h : IntsAt w A L) (hP : ∀ b off, A = some ⟨b, off, none⟩ → L.length = 0 ∨ P b) (hk : Kept P w w') : IntsAt w' A L := fun k hl => by
  obtain ⟨b, off, hA, hlt, hc⟩ := h k hl
  have hPb : P b := (hP b off hA).elim (fun e => by omega) id
  exact ⟨b, off, hA, Nat.lt_of_lt_of_le hlt hk.size, (World.cell?_of_block (w := w) (hk.block b hPb hlt)).trans hc⟩
theorem IntsP.keep {P : Nat → Prop} {w w' : World} {A : Option Addr} {c : Nat} {L : List Int} (h : IntsP P w A c L) (hk : Kept P w w') : IntsP P w' A c L := ⟨h.ints.keep h.off hk, h.ok, h.off⟩
theorem IntsP.mono {P Q : Nat → Prop} {w : World} {A : Option Addr} {c : Nat} {L : List Int} (h : IntsP P w A c L) (hPQ : ∀ b, b < w.heap.size → P b → Q b) : IntsP Q w A c L := ⟨h.ints, h.ok, fun b off e => by
  rcases h.off b off e with h0 | hP
  · exact .inl h0
  · rcases Nat.eq_zero_or_pos L.length with h0 | h0
    · exact .inl h0
    · obtain ⟨b', off', e', hlt, _⟩ := h.ints 0 h0
      rw [e] at e'; injection e' with e'; injection e' with e1; subst e1
      exact .inr (hPQ b hlt hP)⟩
theorem IntsAt.take {w : World} {A : Option Addr} {L : List Int} (h : IntsAt w A L) (k : Nat) : IntsAt w A (L.take k) := fun j hj => by
  have hj' : j < L.length := Nat.lt_of_lt_of_le hj (List.length_take_le' _ _)
  obtain ⟨b, off, hA, hb, hc⟩ := h j hj'
  exact ⟨b, off, hA, hb, by rw [hc, nth_eq hj', nth_eq hj]; simp⟩
theorem IntsAt.nats {w : World} {A : Option Addr} {L : List Nat} (h : IntsAt w A (ofN L)) : NatsAt w A L := fun k hk => by
  obtain ⟨b, off, hA, hb, hc⟩ := h k (by rw [len_ofN]; exact hk)
  exact ⟨b, off, hA, hb, by rw [hc, nth_ofN]⟩
/-- The address A leads to the shares S. -/
def ShAt (P : Nat → Prop) (w : World) (A : Option Addr) (S : List Shr) : Prop :=
  ∀ k, k < S.length → ∃ b off B c, A = some ⟨b, off, none⟩ ∧ b < w.heap.size ∧ P b ∧ w.cell? ⟨b, off + k * 2, none⟩ = some (.int .i64 (hS S k)) ∧
    w.cell? ⟨b, off + k * 2 + 1, none⟩ = some (.slice B (vS S k).length c) ∧ IntsP P w B c (vS S k)
structure ShP (P : Nat → Prop) (w : World) (A : Option Addr) (c : Nat) (S : List Shr) : Prop where
  at_ : ShAt P w A S
  ok : IOK A c S.length
theorem ShAt.keep {P : Nat → Prop} {w w' : World} {A : Option Addr} {S : List Shr} (h : ShAt P w A S) (hk : Kept P w w') : ShAt P w' A S := fun k hl => by
  obtain ⟨b, off, B, c, hA, hlt, hP, h1, h2, h3⟩ := h k hl
  exact ⟨b, off, B, c, hA, Nat.lt_of_lt_of_le hlt hk.size, hP, (World.cell?_of_block (w := w) (hk.block b hP hlt)).trans h1, (World.cell?_of_block (w := w) (hk.block b hP hlt)).trans h2, h3.keep hk⟩
theorem ShP.keep {P : Nat → Prop} {w w' : World} {A : Option Addr} {c : Nat} {S : List Shr} (h : ShP P w A c S) (hk : Kept P w w') : ShP P w' A c S := ⟨h.at_.keep hk, h.ok⟩
theorem ShP.below {P : Nat → Prop} {w w' : World} {A : Option Addr} {c : Nat} {S : List Shr} (h : ShP P w A c S) (hb : Below w.heap.size w w') : ShP P w' A c S := h.keep (Kept.below hb)
theorem ShP.mv {D : Nat} {w w' : World} {A : Option Addr} {c : Nat} {S : List Shr} (h : ShP (· ≠ D) w A c S) (hg : w.grownBy w' (some D)) : ShP (· ≠ D) w' A c S := h.keep (Kept.mv hg)
theorem ShP.mono {P Q : Nat → Prop} {w : World} {A : Option Addr} {c : Nat} {S : List Shr} (h : ShP P w A c S) (hPQ : ∀ b, b < w.heap.size → P b → Q b) : ShP Q w A c S := ⟨fun k hk => by
  obtain ⟨b, off, B, c, hA, hlt, hP, h1, h2, h3⟩ := h.at_ k hk
  exact ⟨b, off, B, c, hA, hlt, hPQ b hlt hP, h1, h2, h3.mono hPQ⟩, h.ok⟩
theorem ShP.any {P : Nat → Prop} {w : World} {A : Option Addr} {c : Nat} {S : List Shr} (h : ShP P w A c S) : ShP (fun _ => True) w A c S := h.mono fun _ _ _ => trivial
theorem ShP.nil (P : Nat → Prop) (w : World) : ShP P w none 0 [] := ⟨fun k h => absurd h (by simp), IOK.none0⟩
theorem hS_take {S : List Shr} {k j : Nat} (h : j < k) : hS (S.take k) j = hS S j := by simp [hS, List.getD_eq_getElem?_getD, h]
theorem vS_take {S : List Shr} {k j : Nat} (h : j < k) : vS (S.take k) j = vS S j := by simp [vS, List.getD_eq_getElem?_getD, h]
theorem ShP.take {P : Nat → Prop} {w : World} {A : Option Addr} {c : Nat} {S : List Shr} (h : ShP P w A c S) (k : Nat) : ShP P w A c (S.take k) := ⟨fun j hj => by
  have hl : (S.take k).length = min k S.length := List.length_take
  obtain ⟨b, off, B, c, hA, hlt, hP, h1, h2, h3⟩ := h.at_ j (by omega)
  refine ⟨b, off, B, c, hA, hlt, hP, ?_⟩
  rw [hS_take (by omega), vS_take (by omega)]
  exact ⟨h1, h2, h3⟩, h.ok.take _ (by rw [List.length_take]; omega)⟩
/-- The call returns a new list of shares. -/
def NewSh (S : List Shr) (w : World) (e : Ending) (w' : World) : Prop :=
  ∃ A c, e = .returned (.slice A S.length c) ∧ ShP (fun b => w.heap.size ≤ b) w' A c S ∧ Below w.heap.size w w'
def ShErr (S : List Shr) (er : Int) (w : World) (e : Ending) (w' : World) : Prop :=
  ∃ A c, e = .returned (.tuple #[.slice A S.length c, .int .i64 er]) ∧ ShP (fun b => w.heap.size ≤ b) w' A c S ∧ Below w.heap.size w w'
theorem ShErr.nil (er : Int) {w w' : World} (hb : Below w.heap.size w w') : ShErr [] er w (.returned (.tuple #[.slice none 0 0, .int .i64 er])) w' := ⟨none, 0, rfl, ShP.nil _ _, hb⟩

/-! ### Plans -/
theorem blk_lt {w : World} {x : Nat} {o : Obj} (h : w.heap[x]? = some o) : x < w.heap.size := by
  rcases Nat.lt_or_ge x w.heap.size with hlt | hge
  · exact hlt
  · rw [Array.getElem?_eq_none hge] at h; cases h
abbrev planV (p n h : Int) : Value := .agg #[.int .i64 p, .int .i64 n, .int .i64 h]
def PlanCell (w : World) (x : Nat) (p n h : Int) : Prop := w.heap[x]? = some (.cells #[.int .i64 p, .int .i64 n, .int .i64 h] 29 (0, 0))
theorem PlanCell.c0 {w : World} {x : Nat} {p n h : Int} (H : PlanCell w x p n h) : w.cell? ⟨x, 0, none⟩ = some (.int .i64 p) := by rw [cell_of_row w x 0 _ _ (0, 0) H]; rfl
theorem PlanCell.c1 {w : World} {x : Nat} {p n h : Int} (H : PlanCell w x p n h) : w.cell? ⟨x, 1, none⟩ = some (.int .i64 n) := by rw [cell_of_row w x 1 _ _ (0, 0) H]; rfl
theorem PlanCell.c2 {w : World} {x : Nat} {p n h : Int} (H : PlanCell w x p n h) : w.cell? ⟨x, 2, none⟩ = some (.int .i64 h) := by rw [cell_of_row w x 2 _ _ (0, 0) H]; rfl
theorem PlanCell.lt {w : World} {x : Nat} {p n h : Int} (H : PlanCell w x p n h) : x < w.heap.size := blk_lt H
theorem PlanCell.below {w w' : World} {x : Nat} {p n h : Int} (H : PlanCell w x p n h) (hb : Below w.heap.size w w') : PlanCell w' x p n h := (hb.block x (blk_lt H)).trans H
theorem PlanCell.keep {w w' : World} {x : Nat} {p n h : Int} (H : PlanCell w x p n h) (hb : w'.heap[x]? = w.heap[x]?) : PlanCell w' x p n h := hb.trans H
theorem PlanCell.new {w : World} {i : Nat} (p n h : Int) (hi : i = w.heap.size) : PlanCell (w.alloc (.cells #[.int .i64 p, .int .i64 n, .int .i64 h] 29)) i p n h := by subst hi; exact heap_alloc_new w _
theorem PlanCell.alloc {w : World} {i : Nat} {p n h : Int} (H : PlanCell w i p n h) (o : Obj) : PlanCell (w.alloc o) i p n h := H.below (below_alloc w o)

def PlanP (p n h : Int) : Prop := 1 ≤ n ∧ n ≤ h ∧ h ≤ 16 ∧ h < p ∧ validI p = true
instance (p n h : Int) : Decidable (PlanP p n h) := by unfold PlanP; exact inferInstance
def plB (p n h : Int) : Bool := decide (PlanP p n h)
theorem plB_no {p n h : Int} (H : ¬ PlanP p n h) : false = plB p n h := (decide_eq_false H).symm
theorem plB_yes {p n h : Int} (H : PlanP p n h) : true = plB p n h := (decide_eq_true H).symm
theorem plB_last {p n h : Int} (h1 : 1 ≤ n) (h2 : n ≤ h) (h3 : h ≤ 16) (h4 : h < p) : validI p = plB p n h := by
  unfold plB
  by_cases hv : validI p = true
  · rw [hv]; exact (decide_eq_true ⟨h1, h2, h3, h4, hv⟩).symm
  · rw [Bool.not_eq_true] at hv
    rw [hv]; exact (decide_eq_false (fun H => by have := H.2.2.2.2; rw [hv] at this; cases this)).symm
theorem plan_prime {p n h : Int} (H : PlanP p n h) (hv : primeV p = validI p) : ∃ q : Nat, p = (q : Int) ∧ PrimeN q ∧ q ≤ 1073741824 := by
  have h1 : primeV p = true := hv.trans H.2.2.2.2
  unfold primeV at h1
  have h2 := @of_decide_eq_true _ (Classical.propDecidable _) h1
  obtain ⟨a, b, c, d, -⟩ := H
  exact ⟨p.toNat, by omega, h2.2, by omega⟩

set_option maxRecDepth 100000 in
set_option maxHeartbeats 1000000 in
theorem valid_plan (p n h : Int) (w : World) (hB : Bases w) : Calls Tryd.prog 43 #[planV p n h] w (RetB (.bool (plB p n h)) w) := by
  have HB := Lib.hid hB
  clear hB
  by_cases h1 : 1 ≤ n
  · by_cases h2 : n ≤ h
    · by_cases h3 : h ≤ 16
      · by_cases h4 : h < p
        · have HV := Lib.hid (plB_last h1 h2 h3 h4)
          go_enter Tryd.func43, Tryd.ntmps43
          go_wp2_with fail
          refine ret_pure (valid_any p _ (HB.out.keep (below_alloc _ _))) ?_
          go_wp2_with fail
          go_ret
          exact RetB.bool HV.out (below_alloc _ _)
        · have HV := Lib.hid (plB_no (fun H : PlanP p n h => h4 H.2.2.2.1))
          go_enter Tryd.func43, Tryd.ntmps43
          go_wp2_with fail
          go_ret
          exact RetB.bool HV.out (below_alloc _ _)
      · have HV := Lib.hid (plB_no (fun H : PlanP p n h => h3 H.2.2.1))
        go_enter Tryd.func43, Tryd.ntmps43
        go_wp2_with fail
        go_ret
        exact RetB.bool HV.out (below_alloc _ _)
    · have HV := Lib.hid (plB_no (fun H : PlanP p n h => h2 H.2.1))
      go_enter Tryd.func43, Tryd.ntmps43
      go_wp2_with fail
      go_ret
      exact RetB.bool HV.out (below_alloc _ _)
  · have HV := Lib.hid (plB_no (fun H : PlanP p n h => h1 H.1))
    go_enter Tryd.func43, Tryd.ntmps43
    go_wp2_with fail
    go_ret
    exact RetB.bool HV.out (below_alloc _ _)

theorem plB_bad {p n h : Int} (H : validI p = false) : false = plB p n h := plB_no (fun g => by have := g.2.2.2.2; rw [H] at this; cases this)
set_option maxRecDepth 100000 in
set_option maxHeartbeats 1000000 in
theorem refValid_plan (p n h : Int) (w : World) (hv : primeV p = validI p) : Calls Tryd.prog 50 #[planV p n h] w (RetB (.bool (plB p n h)) w) := by
  have hc := fun w => refValid_any p w
  rw [hv] at hc
  have HC := Lib.hid hc
  clear hc hv
  cases hq : validI p with
  | false =>
    have HV := Lib.hid (plB_bad (n := n) (h := h) hq)
    have HQ := Lib.hid hq
    clear hq
    go_enter Tryd.func50, Tryd.ntmps50
    go_wp2_with fail
    refine ret_pure (HC.out _) ?_
    rw [HQ.out]
    go_wp2_with fail
    go_ret
    exact RetB.bool HV.out (below_alloc _ _)
  | true =>
    have HQ := Lib.hid hq
    clear hq
    by_cases h1 : 1 ≤ n
    · by_cases h2 : n ≤ h
      · by_cases h3 : h ≤ 16
        · have HV := Lib.hid (show decide (h < p) = plB p n h from by
            by_cases h4 : h < p
            · rw [decide_eq_true h4, ← plB_last h1 h2 h3 h4]; exact HQ.out.symm
            · rw [decide_eq_false h4]; exact plB_no (fun H => h4 H.2.2.2.1))
          go_enter Tryd.func50, Tryd.ntmps50
          go_wp2_with fail
          refine ret_pure (HC.out _) ?_
          rw [HQ.out]
          go_wp2_with fail
          go_ret
          exact RetB.bool HV.out (below_alloc _ _)
        · have HV := Lib.hid (plB_no (fun H : PlanP p n h => h3 H.2.2.1))
          go_enter Tryd.func50, Tryd.ntmps50
          go_wp2_with fail
          refine ret_pure (HC.out _) ?_
          rw [HQ.out]
          go_wp2_with fail
          go_ret
          exact RetB.bool HV.out (below_alloc _ _)
      · have HV := Lib.hid (plB_no (fun H : PlanP p n h => h2 H.2.1))
        go_enter Tryd.func50, Tryd.ntmps50
        go_wp2_with fail
        refine ret_pure (HC.out _) ?_
        rw [HQ.out]
        go_wp2_with fail
        go_ret
        exact RetB.bool HV.out (below_alloc _ _)
    · have HV := Lib.hid (plB_no (fun H : PlanP p n h => h1 H.1))
      go_enter Tryd.func50, Tryd.ntmps50
      go_wp2_with fail
      refine ret_pure (HC.out _) ?_
      rw [HQ.out]
      go_wp2_with fail
      go_ret
      exact RetB.bool HV.out (below_alloc _ _)

/-! ### Lists of elements -/
def outB (p n : Int) : Bool := decide (n < 0) || decide (p ≤ n)
theorem outB_lt {p n : Int} (h : n < 0) : true = outB p n := by unfold outB; rw [decide_eq_true h]; rfl
theorem outB_ge {p n : Int} (h : ¬ n < 0) : decide (p ≤ n) = outB p n := by unfold outB; rw [decide_eq_false h]; rfl
def IxI (T : Int → Bool) (L : List Int) (i : Int) : Prop := (i = -1 ∧ ∀ j, j < L.length → T (nth L j) = false) ∨ ∃ k : Nat, i = k ∧ k < L.length ∧ T (nth L k) = true
theorem ixI_any {T : Int → Bool} {L : List Int} {i : Int} (h : IxI T L i) : decide (0 ≤ i) = L.any T := by
  rcases h with ⟨rfl, h⟩ | ⟨k, rfl, hk, ht⟩
  · have : L.any T = false := by
      rw [List.any_eq_false]
      intro x hx
      obtain ⟨j, hj, rfl⟩ := List.getElem_of_mem hx
      have := h j hj
      rw [nth_eq hj] at this; simp [this]
    rw [this]; rfl
  · have : L.any T = true := by
      rw [List.any_eq_true]
      exact ⟨nth L k, by rw [nth_eq hk]; exact List.getElem_mem hk, ht⟩
    rw [this]; exact decide_eq_true (by omega)
theorem any_out (p : Int) (L : List Int) : (!L.any (outB p)) = inside p L := by
  unfold inside
  induction L with
  | nil => rfl
  | cons x L ih =>
    simp only [List.any_cons, List.all_cons, Bool.not_or, ih]
    congr 1
    unfold outB
    rw [Bool.eq_iff_iff]; simp
end Go.Proofs.YtjckpammcgeloaaDoor
namespace Go.Proofs.YtjckpammcgeloaaDoor
open Go.RowKit

/-! ### A share in a cell -/
abbrev shV (x : Int) (v : Value) : Value := .agg #[.int .i64 x, v]
def ShCell (w : World) (g : Nat) (x : Int) (v : Value) : Prop := w.heap[g]? = some (.cells #[.int .i64 x, v] 35 (0, 0))
theorem ShCell.c0 {w : World} {g : Nat} {x : Int} {v : Value} (H : ShCell w g x v) : w.cell? ⟨g, 0, none⟩ = some (.int .i64 x) := by rw [cell_of_row w g 0 _ _ (0, 0) H]; rfl
theorem ShCell.c1 {w : World} {g : Nat} {x : Int} {v : Value} (H : ShCell w g x v) : w.cell? ⟨g, 1, none⟩ = some v := by rw [cell_of_row w g 1 _ _ (0, 0) H]; rfl
theorem ShCell.frozen {w : World} {g : Nat} {x : Int} {v : Value} (H : ShCell w g x v) (j : Nat) : w.frozen? ⟨g, j, none⟩ = false := by unfold ShCell at H; simp [World.frozen?, H]
theorem ShCell.below {w w' : World} {g : Nat} {x : Int} {v : Value} (H : ShCell w g x v) (hb : Below w.heap.size w w') : ShCell w' g x v := (hb.block g (blk_lt H)).trans H
theorem ShCell.new {w : World} {i : Nat} (x : Int) (v : Value) (hi : i = w.heap.size) : ShCell (w.alloc (.cells #[.int .i64 x, v] 35)) i x v := by subst hi; exact heap_alloc_new w _
theorem ShCell.alloc {w : World} {i : Nat} {x : Int} {v : Value} (H : ShCell w i x v) (o : Obj) : ShCell (w.alloc o) i x v := H.below (below_alloc w o)
theorem ShCell.other {w : World} {i : Nat} {x : Int} {v : Value} (H : ShCell w i x v) (q : Addr) (u : Value) (hq : i ≠ q.block) : ShCell (w.setCell q u) i x v := (Below.heap_setCell w q u i hq).trans H
theorem ShCell.set1 {w : World} {g : Nat} {x : Int} {v : Value} (H : ShCell w g x v) (u : Value) : ShCell (w.setCell ⟨g, 1, none⟩ u) g x u := by
  unfold ShCell at H ⊢; simp [World.setCell, Array.getElem?_modify, H]
theorem ShCell.set0 {w : World} {g : Nat} {x : Int} {v : Value} (H : ShCell w g x v) (y : Int) : ShCell (w.setCell ⟨g, 0, none⟩ (.int .i64 y)) g y v := by
  unfold ShCell at H ⊢; simp [World.setCell, Array.getElem?_modify, H]

/-! ### Stands -/
def stB (p h : Int) (x : Int) (L : List Int) : Bool := decide (1 ≤ x) && decide (x ≤ h) && inside p L
theorem stB_lo {p h x : Int} {L : List Int} (H : ¬ 1 ≤ x) : false = stB p h x L := by unfold stB; rw [decide_eq_false H]; rfl
theorem stB_hi {p h x : Int} {L : List Int} (H : ¬ x ≤ h) : false = stB p h x L := by unfold stB; rw [decide_eq_false H, Bool.and_false]; rfl
theorem stB_in {p h x : Int} {L : List Int} (H : 1 ≤ x) (H2 : x ≤ h) : inside p L = stB p h x L := by unfold stB; rw [decide_eq_true H, decide_eq_true H2]; rfl
theorem stB_bd {p h x : Int} {L : List Int} (H : stB p h x L = true) : 1 ≤ x ∧ x ≤ h ∧ inside p L = true := by
  unfold stB at H; simp only [Bool.and_eq_true, decide_eq_true_eq] at H; exact ⟨H.1.1, H.1.2, H.2⟩

/-! ### Good -/
/-- What each share of a good list satisfies. -/
structure GdAt (p h : Int) (S : List Shr) (k : Nat) : Prop where
  st : stB p h (hS S k) (vS S k) = true
  len : (vS S k).length = (vS S 0).length
  few : (vS S k).length ≤ 2048
  new : ∀ j, j < k → hS S j ≠ hS S k
def GdP (p h : Int) (S : List Shr) : Prop := ∀ k, k < S.length → GdAt p h S k
noncomputable def gdB (p h : Int) (S : List Shr) : Bool := @decide (GdP p h S) (Classical.propDecidable _)
theorem gdB_no {p h : Int} {S : List Shr} (k : Nat) (hk : k < S.length) (H : ¬ GdAt p h S k) : false = gdB p h S := (@decide_eq_false _ (Classical.propDecidable _) (fun g => H (g k hk))).symm
theorem gdB_yes {p h : Int} {S : List Shr} (H : GdP p h S) : true = gdB p h S := (@decide_eq_true _ (Classical.propDecidable _) H).symm
theorem gdB_of {p h : Int} {S : List Shr} (H : gdB p h S = true) : GdP p h S := @of_decide_eq_true _ (Classical.propDecidable _) H
theorem gdB_of_not {p h : Int} {S : List Shr} (H : gdB p h S = false) : ¬ GdP p h S := @of_decide_eq_false _ (Classical.propDecidable _) H
/-- No list is longer than this. -/
def Short (S : List Shr) : Prop := ∀ k, k < S.length → (vS S k).length ≤ 1048576
theorem size_alloc (w : World) (o : Obj) : (w.alloc o).heap.size = w.heap.size + 1 := by simp
/-- Block g: which numbers have been seen. -/
structure SeenAt (w : World) (g : Nat) (f : Nat → Bool) : Prop where
  lt : g < w.heap.size
  cell : ∀ j, j < 17 → w.cell? ⟨g, j, none⟩ = some (.bool (f j))
  free : ∀ j, w.frozen? ⟨g, j, none⟩ = false
theorem SeenAt.below {w w' : World} {g : Nat} {f : Nat → Bool} (h : SeenAt w g f) (hb : Below w.heap.size w w') : SeenAt w' g f :=
  ⟨Nat.lt_of_lt_of_le h.lt hb.size, fun j hj => (hb.cell h.lt).trans (h.cell j hj), fun j => (hb.frozen (p := ⟨g, j, none⟩) h.lt).trans (h.free j)⟩
theorem SeenAt.set_ {w : World} {g : Nat} {f : Nat → Bool} (h : SeenAt w g f) (j : Nat) (hj : j < 17) : SeenAt (w.setCell ⟨g, j, none⟩ (.bool true)) g (fun i => if i = j then true else f i) := by
  refine ⟨by have := h.lt; simpa [World.setCell] using this, fun i hi => ?_, fun i => ?_⟩
  · by_cases e : i = j
    · subst e
      rw [World.cell?_setCell_same _ _ _ (by rw [h.cell i hi])]; simp
    · rw [World.cell?_setCell_other _ _ _ _ (fun e' => by injection e' with e1 e2; exact e e2.symm), h.cell i hi, if_neg e]
  · rw [World.frozen?_setCell]; exact h.free i
def seenF (S : List Shr) (k : Nat) (m : Nat) : Bool := (List.range k).any fun j => decide (hS S j = (m : Int))
theorem seenF_zero (S : List Shr) (m : Nat) : seenF S 0 m = false := rfl
theorem seenF_succ (S : List Shr) (k : Nat) (x : Nat) (hx : hS S k = (x : Int)) (m : Nat) : seenF S (k + 1) m = if m = x then true else seenF S k m := by
  unfold seenF
  rw [List.range_succ, List.any_append]
  simp only [List.any_cons, List.any_nil, Bool.or_false, hx]
  by_cases e : m = x
  · subst e; simp
  · rw [if_neg e, decide_eq_false (by omega), Bool.or_false]
theorem seenF_yes {S : List Shr} {k x : Nat} (hx : hS S k = (x : Int)) (h : seenF S k x = true) : ¬ ∀ j, j < k → hS S j ≠ hS S k := fun g => by
  unfold seenF at h
  rw [List.any_eq_true] at h
  obtain ⟨j, hj, hd⟩ := h
  exact g j (List.mem_range.1 hj) (by rw [of_decide_eq_true hd, hx])
theorem seenF_no {S : List Shr} {k x : Nat} (hx : hS S k = (x : Int)) (h : seenF S k x = false) : ∀ j, j < k → hS S j ≠ hS S k := fun j hj e => by
  unfold seenF at h
  rw [List.any_eq_false] at h
  exact h j (List.mem_range.2 hj) (by rw [e, hx]; simp)
end Go.Proofs.YtjckpammcgeloaaDoor
namespace Go.Proofs.YtjckpammcgeloaaDoor
open Go.RowKit

theorem not_gd_st {p h : Int} {S : List Shr} {k : Nat} (H : stB p h (hS S k) (vS S k) = false) : ¬ GdAt p h S k := fun g => by have := g.st; rw [H] at this; cases this
end Go.Proofs.YtjckpammcgeloaaDoor
namespace Go.Proofs.YtjckpammcgeloaaDoor
open Go.RowKit

attribute [local go_sem high] sliced_low
end Go.Proofs.YtjckpammcgeloaaDoor
