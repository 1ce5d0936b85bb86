/-
  Polynomials as the program has them: lists of elements. Values, degrees, products, weights, the polynomial through points, division; plain, no program in sight.
-/
import Derived.Test.YtkjpnhhkebbmdaaDoorPolM
namespace Go.Proofs.YtkjpnhhkebbmdaaDoor

/-! ### Values -/
def evN (p : Nat) : List Nat → Nat → Nat
  | [], _ => 0
  | c :: L, x => fadd p (fmul p (evN p L x) x) c
theorem evN_lt {p : Nat} (hp : 1 ≤ p) : ∀ (L : List Nat) (x : Nat), evN p L x < p
  | [], _ => hp
  | _ :: _, _ => fadd_lt hp _ _
theorem cg_ev (p : Nat) (x : Nat) : ∀ L : List Nat, Cg p (evN p L x : Nat) (evalZ (ofN L) x)
  | [] => rfl
  | c :: L => by
    refine (cg_add p _ c).trans ?_
    refine (((cg_mul p _ x).trans ((cg_ev p x L).mul (Cg.refl p _))).add (Cg.refl p _)).trans (.of_eq ?_)
    simp only [ofN, List.map_cons, evalZ]; grind
theorem nthN_cons (c : Nat) (L : List Nat) (k : Nat) : nthN (c :: L) (k + 1) = nthN L k := by simp [nthN]
theorem nthN_head (c : Nat) (L : List Nat) : nthN (c :: L) 0 = c := by simp [nthN]
theorem nthN_nil (k : Nat) : nthN [] k = 0 := by simp [nthN]
theorem evalZ_sum (x : Int) : ∀ (L : List Nat) (N : Nat), L.length ≤ N → evalZ (ofN L) x = sumI N fun n => (nthN L n : Int) * x ^ n
  | [], N, _ => by
    rw [sumI_ext (g := fun _ => 0 * 0) N (fun k _ => by simp [nthN]), sumI_mul]; simp [ofN, evalZ]
  | c :: L, 0, h => absurd h (by simp)
  | c :: L, N + 1, h => by
    have ih := evalZ_sum x L N (by simp at h; omega)
    have hs : ∀ (f : Nat → Int) (n : Nat), sumI (n + 1) f = f 0 + sumI n (fun k => f (k + 1)) := by
      intro f n
      induction n with
      | zero => simp [sumI]
      | succ n ih => simp only [sumI] at ih ⊢; omega
    rw [hs]
    have e : sumI N (fun k => (nthN (c :: L) (k + 1) : Int) * x ^ (k + 1)) = x * sumI N fun n => (nthN L n : Int) * x ^ n := by
      rw [← sumI_mul]; refine sumI_ext N fun k _ => ?_
      rw [nthN_cons, Int.pow_succ]; grind
    rw [e, ← ih, nthN_head]
    simp [ofN, evalZ]
theorem evalZ_nth {L M : List Nat} (h : ∀ k, nthN L k = nthN M k) (x : Int) : evalZ (ofN L) x = evalZ (ofN M) x := by
  rw [evalZ_sum x L (max L.length M.length) (by omega), evalZ_sum x M (max L.length M.length) (by omega)]
  exact sumI_ext _ fun k _ => by rw [h k]
theorem evN_nth {p : Nat} (hp : 1 ≤ p) {L M : List Nat} (h : ∀ k, nthN L k = nthN M k) (x : Nat) : evN p L x = evN p M x :=
  Cg.nat (((cg_ev p x L).trans (.of_eq (evalZ_nth h x))).trans (cg_ev p x M).symm) (evN_lt hp _ _) (evN_lt hp _ _)

/-! ### Degrees -/
/-- How many coefficients there are up to the last that is not 0. -/
def dgN : List Nat → Nat
  | [] => 0
  | c :: L => if dgN L = 0 then (if c = 0 then 0 else 1) else dgN L + 1
theorem dgN_le : ∀ L : List Nat, dgN L ≤ L.length
  | [] => Nat.le_refl _
  | c :: L => by
    have := dgN_le L
    simp only [dgN, List.length_cons]
    split
    · split <;> omega
    · omega
theorem dgN_above : ∀ (L : List Nat) (k : Nat), dgN L ≤ k → nthN L k = 0
  | [], k, _ => nthN_nil k
  | c :: L, k, h => by
    simp only [dgN] at h
    by_cases h0 : dgN L = 0
    · rw [if_pos h0] at h
      cases k with
      | zero =>
        rw [nthN_head]
        by_cases hc : c = 0
        · exact hc
        · rw [if_neg hc] at h; omega
      | succ k => rw [nthN_cons]; exact dgN_above L k (by omega)
    · rw [if_neg h0] at h
      cases k with
      | zero => omega
      | succ k => rw [nthN_cons]; exact dgN_above L k (by omega)
theorem dgN_top : ∀ (L : List Nat), 0 < dgN L → nthN L (dgN L - 1) ≠ 0
  | [], h => absurd h (by simp [dgN])
  | c :: L, h => by
    by_cases h0 : dgN L = 0
    · by_cases hc : c = 0
      · simp [dgN, h0, hc] at h
      · have : dgN (c :: L) = 1 := by simp [dgN, h0, hc]
        rw [this, nthN_head]; exact hc
    · have : dgN (c :: L) = dgN L + 1 := by simp [dgN, h0]
      have ih := dgN_top L (by omega)
      rw [this, show dgN L + 1 - 1 = (dgN L - 1) + 1 by omega, nthN_cons]; exact ih
theorem dgN_eq {L : List Nat} {d : Nat} (h : ∀ k, d ≤ k → nthN L k = 0) (ht : 0 < d → nthN L (d - 1) ≠ 0) : dgN L = d := by
  rcases Nat.lt_trichotomy (dgN L) d with h1 | h1 | h1
  · exact absurd (dgN_above L (d - 1) (by omega)) (ht (by omega))
  · exact h1
  · exact absurd (h (dgN L - 1) (by omega)) (dgN_top L (by omega))
def shN (L : List Nat) : List Nat := L.take (dgN L)
theorem shN_len (L : List Nat) : (shN L).length = dgN L := by have := dgN_le L; simp [shN]; omega
theorem shN_nth (L : List Nat) (k : Nat) : nthN (shN L) k = nthN L k := by
  by_cases h : k < dgN L
  · simp [nthN, shN, List.getD_eq_getElem?_getD, h]
  · rw [dgN_above L k (by omega), nthN_ge (by rw [shN_len]; omega)]
theorem dgN_ext {L M : List Nat} (h : ∀ k, nthN L k = nthN M k) : dgN L = dgN M :=
  dgN_eq (fun k hk => by rw [h]; exact dgN_above M k hk) (fun hd => by rw [h]; exact dgN_top M hd)
theorem shN_ext {L M : List Nat} (h : ∀ k, nthN L k = nthN M k) : shN L = shN M := by
  have hd := dgN_ext h
  refine extN (by rw [shN_len, shN_len, hd]) fun k _ => by rw [shN_nth, shN_nth, h]
theorem shN_lt {p : Nat} {L : List Nat} (h : ∀ x ∈ L, x < p) : ∀ x ∈ shN L, x < p := fun x hx => h x (List.mem_of_mem_take hx)
theorem shN_last {L : List Nat} (h : 0 < (shN L).length) : nthN (shN L) ((shN L).length - 1) ≠ 0 := by
  rw [shN_nth]; rw [shN_len] at h ⊢; exact dgN_top L h
theorem dgN_sh (L : List Nat) : dgN (shN L) = dgN L := dgN_ext (shN_nth L)
theorem dgN_lt_of {L : List Nat} {n : Nat} (h : ∀ k, n ≤ k → nthN L k = 0) : dgN L ≤ n := by
  rcases Nat.lt_or_ge n (dgN L) with h1 | h1
  · exact absurd (h (dgN L - 1) (by omega)) (dgN_top L (by omega))
  · exact h1

/-! ### Products -/
/-- Coefficient n of the product, the first i rows. -/
def cfN (p : Nat) (a b : List Nat) (n : Nat) : Nat → Nat
  | 0 => 0
  | i + 1 => if i ≤ n then fadd p (cfN p a b n i) (fmul p (nthN a i) (nthN b (n - i))) else cfN p a b n i
theorem cfN_lt {p : Nat} (hp : 1 ≤ p) (a b : List Nat) (n : Nat) : ∀ i, cfN p a b n i < p
  | 0 => hp
  | i + 1 => by
    simp only [cfN]; split
    · exact fadd_lt hp _ _
    · exact cfN_lt hp a b n i
def cvI (a b : List Nat) (n : Nat) (j : Nat) : Int := if j ≤ n then (nthN a j : Int) * (nthN b (n - j) : Int) else 0
theorem cfN_cg (p : Nat) (a b : List Nat) (n : Nat) : ∀ i, Cg p (cfN p a b n i : Nat) (sumI i (cvI a b n))
  | 0 => rfl
  | i + 1 => by
    have ih := cfN_cg p a b n i
    by_cases h : i ≤ n
    · simp only [cfN, sumI, cvI, if_pos h]
      exact (cg_add p _ _).trans (ih.add (cg_mul p _ _))
    · simp only [cfN, sumI, cvI, if_neg h]
      exact ih.trans (.of_eq (by omega))
def rowsN (p : Nat) (a b : List Nat) : List Nat := (List.range (a.length + b.length - 1)).map fun n => cfN p a b n a.length
theorem rowsN_len (p : Nat) (a b : List Nat) : (rowsN p a b).length = a.length + b.length - 1 := by simp [rowsN]
theorem cfN_past (p : Nat) (a b : List Nat) (n : Nat) (h : a.length + b.length - 1 ≤ n) (hp : 1 ≤ p) : ∀ i, i ≤ a.length → cfN p a b n i = 0
  | 0, _ => rfl
  | i + 1, hi => by
    have ih := cfN_past p a b n h hp i (by omega)
    simp only [cfN]
    rw [ih, nthN_ge (L := b) (k := n - i) (by omega)]
    simp [fadd, fmul]
theorem rowsN_nth (p : Nat) (a b : List Nat) (n : Nat) (hp : 1 ≤ p) : nthN (rowsN p a b) n = cfN p a b n a.length := by
  by_cases h : n < a.length + b.length - 1
  · rw [nthN_eq (by rw [rowsN_len]; exact h)]; simp [rowsN]
  · rw [nthN_ge (by rw [rowsN_len]; omega), cfN_past p a b n (by omega) hp _ (Nat.le_refl _)]
theorem rowsN_lt {p : Nat} (hp : 1 ≤ p) (a b : List Nat) : ∀ x ∈ rowsN p a b, x < p := fun x hx => by
  obtain ⟨n, _, rfl⟩ := List.mem_map.1 hx
  exact cfN_lt hp _ _ _ _
/-- The product, short. -/
def mulN (p : Nat) (a b : List Nat) : List Nat := if a.length = 0 ∨ b.length = 0 then [] else shN (rowsN p a b)
theorem mulN_nth (p : Nat) (a b : List Nat) (n : Nat) (hp : 1 ≤ p) : nthN (mulN p a b) n = cfN p a b n a.length := by
  unfold mulN
  split
  · rename_i h
    rw [nthN_nil]
    rcases h with h | h
    · rw [h]; rfl
    · refine Cg.nat (p := p) (Cg.symm ((cfN_cg p a b n _).trans (sumI_zero _ fun k _ => ?_))) hp (cfN_lt hp _ _ _ _)
      unfold cvI; split
      · rw [nthN_ge (L := b) (by omega)]; exact .of_eq (by simp)
      · rfl
  · rw [shN_nth, rowsN_nth p a b n hp]
theorem mulN_lt {p : Nat} (hp : 1 ≤ p) (a b : List Nat) : ∀ x ∈ mulN p a b, x < p := by
  unfold mulN; split
  · intro x hx; cases hx
  · exact shN_lt (rowsN_lt hp a b)
theorem mulN_len (p : Nat) (a b : List Nat) : (mulN p a b).length ≤ a.length + b.length - 1 := by
  unfold mulN; split
  · simp
  · rw [shN_len]; have := dgN_le (rowsN p a b); rw [rowsN_len] at this; exact this
theorem sum_shift (g : Nat → Int) (x : Int) (i : Nat) : ∀ M, sumI (i + M) (fun n => (if i ≤ n then g (n - i) else 0) * x ^ n) = x ^ i * sumI M fun m => g m * x ^ m
  | 0 => by
    have : ∀ k, k ≤ i → sumI k (fun n => (if i ≤ n then g (n - i) else 0) * x ^ n) = 0 := by
      intro k
      induction k with
      | zero => intro _; rfl
      | succ k ih => intro hk; simp only [sumI]; rw [ih (by omega), if_neg (by omega)]; simp
    simp only [Nat.add_zero, sumI]; rw [this i (Nat.le_refl _)]; simp
  | M + 1 => by
    have ih := sum_shift g x i M
    rw [← Nat.add_assoc]
    simp only [sumI]
    rw [ih, if_pos (by omega), show i + M - i = M by omega, Int.mul_add, Int.pow_add]
    grind
theorem rows_eval (a b : List Nat) (x : Int) (N : Nat) : ∀ i, i + b.length ≤ N → sumI N (fun n => sumI i (cvI a b n) * x ^ n) = sumI i (fun j => (nthN a j : Int) * x ^ j) * evalZ (ofN b) x
  | 0, _ => by
    rw [sumI_ext (g := fun _ => 0 * 0) N (fun k _ => by simp [sumI]), sumI_mul]; simp [sumI]
  | i + 1, h => by
    have ih := rows_eval a b x N i (by omega)
    have e : sumI N (fun n => sumI (i + 1) (cvI a b n) * x ^ n) = sumI N (fun n => sumI i (cvI a b n) * x ^ n) + sumI N (fun n => cvI a b n i * x ^ n) := by
      rw [← sumI_add]; refine sumI_ext N fun k _ => ?_
      simp only [sumI]; grind
    rw [e, ih]
    have hs := sum_shift (fun m => (nthN a i : Int) * (nthN b m : Int)) x i (N - i)
    rw [show i + (N - i) = N by omega] at hs
    have e2 : sumI N (fun n => cvI a b n i * x ^ n) = (nthN a i : Int) * x ^ i * evalZ (ofN b) x := by
      rw [show (fun n => cvI a b n i * x ^ n) = fun n => (if i ≤ n then (nthN a i : Int) * (nthN b (n - i) : Int) else 0) * x ^ n from rfl, hs, evalZ_sum x b (N - i) (by omega)]
      rw [show sumI (N - i) (fun m => (nthN a i : Int) * (nthN b m : Int) * x ^ m) = (nthN a i : Int) * sumI (N - i) (fun m => (nthN b m : Int) * x ^ m) from by
        rw [← sumI_mul]; exact sumI_ext _ fun k _ => by grind]
      grind
    rw [e2]
    simp only [sumI]; grind
theorem mul_eval (p : Nat) (a b : List Nat) (x : Int) (hp : 1 ≤ p) : Cg p (evalZ (ofN (mulN p a b)) x) (evalZ (ofN a) x * evalZ (ofN b) x) := by
  have hl := mulN_len p a b
  rw [evalZ_sum x (mulN p a b) (a.length + b.length) (by omega)]
  refine (sumI_cg (g := fun n => sumI a.length (cvI a b n) * x ^ n) _ fun k _ => ?_).trans (.of_eq ?_)
  · exact (Cg.of_eq (by rw [mulN_nth p a b k hp])).trans ((cfN_cg p a b k _).mul (Cg.refl p _))
  · rw [rows_eval a b x _ _ (Nat.le_refl _), evalZ_sum x a a.length (Nat.le_refl _)]

/-! ### Weights -/
def topN (p i x : Nat) (xs : List Nat) : Nat → Nat
  | 0 => fone p
  | n + 1 => if n = i then topN p i x xs n else fmul p (topN p i x xs n) (fsub p x (nthN xs n))
theorem topN_lt {p : Nat} (hp : 1 ≤ p) (i x : Nat) (xs : List Nat) : ∀ n, topN p i x xs n < p
  | 0 => fone_lt hp
  | n + 1 => by
    simp only [topN]; split
    · exact topN_lt hp i x xs n
    · exact fmul_lt hp _ _
theorem topN_cg {p : Nat} (hp : 1 ≤ p) (i x : Nat) (xs : List Nat) (hx : ∀ y ∈ xs, y < p) : ∀ n, Cg p (topN p i x xs n : Nat) (prodE i n fun k => (x : Int) - (nthN xs k : Nat))
  | 0 => cg_one p
  | n + 1 => by
    have ih := topN_cg hp i x xs hx n
    by_cases h : n = i
    · simp only [topN, prodE, if_pos h]; exact ih
    · simp only [topN, prodE, if_neg h]
      exact (cg_mul p _ _).trans (ih.mul (cg_sub p x _ (Nat.le_of_lt (nthN_lt hp hx n))))
def wN (p : Nat) (xs : List Nat) (i x : Nat) : Nat := fmul p (topN p i x xs xs.length) (invV p (topN p i (nthN xs i) xs xs.length))
theorem wN_lt {p : Nat} (hp : 1 ≤ p) (xs : List Nat) (i x : Nat) : wN p xs i x < p := fmul_lt hp _ _
theorem invV_lt {p : Nat} (hp : 1 ≤ p) (a : Nat) : invV p a < p := by
  unfold invV; split
  · exact hp
  · exact fpow_lt hp _ _
def wsN (p : Nat) (xs : List Nat) (x : Nat) : List Nat := (List.range xs.length).map fun i => wN p xs i x
theorem wsN_len (p : Nat) (xs : List Nat) (x : Nat) : (wsN p xs x).length = xs.length := by simp [wsN]
theorem wsN_nth (p : Nat) (xs : List Nat) (x : Nat) {i : Nat} (h : i < xs.length) : nthN (wsN p xs x) i = wN p xs i x := by
  rw [nthN_eq (by rw [wsN_len]; exact h)]; simp [wsN]
theorem wsN_lt {p : Nat} (hp : 1 ≤ p) (xs : List Nat) (x : Nat) : ∀ y ∈ wsN p xs x, y < p := fun y hy => by
  obtain ⟨i, _, rfl⟩ := List.mem_map.1 hy
  exact wN_lt hp _ _ _
/-- The sum of the first n products. -/
def wgN (p : Nat) (ws ys : List Nat) : Nat → Nat
  | 0 => 0
  | n + 1 => fadd p (wgN p ws ys n) (fmul p (nthN ws n) (nthN ys n))
theorem wgN_lt {p : Nat} (hp : 1 ≤ p) (ws ys : List Nat) : ∀ n, wgN p ws ys n < p
  | 0 => hp
  | _ + 1 => fadd_lt hp _ _
theorem wgN_cg (p : Nat) (ws ys : List Nat) : ∀ n, Cg p (wgN p ws ys n : Nat) (sumI n fun k => (nthN ws k : Int) * (nthN ys k : Int))
  | 0 => rfl
  | n + 1 => (cg_add p _ _).trans ((wgN_cg p ws ys n).add (cg_mul p _ _))
theorem diffI {p : Nat} {xs : List Nat} (hx : ∀ y ∈ xs, y < p) (hn : xs.Nodup) : DiffI p xs.length (fun k => (nthN xs k : Nat)) := fun i k hi hk hne h => by
  have h1 := Cg.nat h (hx _ (nthN_mem hi)) (hx _ (nthN_mem hk))
  rw [nthN_eq hi, nthN_eq hk] at h1
  exact hne ((List.getElem?_inj hi hn).1 (by rw [List.getElem?_eq_getElem hi, List.getElem?_eq_getElem hk, h1]))
theorem below_ne {p : Nat} (hp : PrimeN p) {xs : List Nat} (hx : ∀ y ∈ xs, y < p) (hn : xs.Nodup) {i : Nat} (hi : i < xs.length) :
    ¬ Cg p (topN p i (nthN xs i) xs xs.length : Nat) 0 := fun h => by
  have h1 := prodE_ne hp (i := i) (f := fun k => ((nthN xs i : Nat) : Int) - (nthN xs k : Nat)) xs.length (fun k hk hki hc => diffI hx hn i k hi hk (by omega) (Cg.of_sub hc))
  exact h1 ((topN_cg (by have := hp.1; omega) i (nthN xs i) xs hx xs.length).symm.trans h)
theorem invV_of_ne {p a : Nat} (h : ¬ Cg p a 0) : invV p a = finv p a := by
  unfold invV; rw [if_neg]; rintro rfl; exact h rfl
theorem inv_below {p : Nat} (hp : PrimeN p) {xs : List Nat} (hx : ∀ y ∈ xs, y < p) (hn : xs.Nodup) {i : Nat} (hi : i < xs.length) :
    Cg p (prodE i xs.length (fun k => ((nthN xs i : Nat) : Int) - (nthN xs k : Nat)) * (invV p (topN p i (nthN xs i) xs xs.length) : Nat)) 1 := by
  have h0 := below_ne hp hx hn hi
  rw [invV_of_ne h0]
  exact ((topN_cg (by have := hp.1; omega) i (nthN xs i) xs hx xs.length).symm.mul (Cg.refl p _)).trans (cg_inv hp h0)
theorem wN_cg {p : Nat} (hp : 1 ≤ p) {xs : List Nat} (hx : ∀ y ∈ xs, y < p) (i x : Nat) :
    Cg p (wN p xs i x : Nat) (prodE i xs.length (fun k => (x : Int) - (nthN xs k : Nat)) * (invV p (topN p i (nthN xs i) xs xs.length) : Nat)) :=
  (cg_mul p _ _).trans ((topN_cg hp i x xs hx _).mul (Cg.refl p _))
/-- The values at the places give the value anywhere. -/
theorem interpN {p : Nat} (hp : PrimeN p) {xs : List Nat} (hx : ∀ y ∈ xs, y < p) (hn : xs.Nodup) {L ys : List Nat} (hl : L.length ≤ xs.length)
    (hy : ∀ i, i < xs.length → nthN ys i = evN p L (nthN xs i)) (x : Nat) : wgN p (wsN p xs x) ys xs.length = evN p L x := by
  have hp1 : 1 ≤ p := by have := hp.1; omega
  refine Cg.nat (p := p) ?_ (wgN_lt hp1 _ _ _) (evN_lt hp1 _ _)
  refine (wgN_cg p _ ys xs.length).trans (Cg.trans ?_ (cg_ev p x L).symm)
  refine Cg.trans ?_ (interp hp (diffI hx hn) (v := fun i => ((invV p (topN p i (nthN xs i) xs xs.length) : Nat) : Int)) (fun i hi => inv_below hp hx hn hi) (L := ofN L) (by rw [len_ofN]; exact hl) (x : Int))
  refine sumI_cg _ fun k hk => ?_
  rw [wsN_nth p xs x hk, hy k hk]
  exact (wN_cg hp1 hx k x).mul (cg_ev p _ L)
theorem wN_at {p : Nat} (hp : PrimeN p) {xs : List Nat} (hx : ∀ y ∈ xs, y < p) (hn : xs.Nodup) {k : Nat} (hk : k < xs.length) {i : Nat} (hi : i < xs.length) :
    wN p xs i (nthN xs k) = if i = k then 1 else 0 := by
  have hp1 : 1 ≤ p := by have := hp.1; omega
  have hw := wN_cg hp1 hx i (nthN xs k)
  by_cases h : i = k
  · subst h
    rw [if_pos rfl]
    exact Cg.nat (p := p) (hw.trans (inv_below hp hx hn hi)) (wN_lt hp1 _ _ _) (by have := hp.1; omega)
  · rw [if_neg h]
    have h0 := prodE_zero (p := p) (i := i) (f := fun m => ((nthN xs k : Nat) : Int) - (nthN xs m : Nat)) xs.length k hk (by omega) (Cg.of_eq (by omega))
    exact Cg.nat (p := p) (b := 0) (hw.trans ((h0.mul (Cg.refl p _)).trans (.of_eq (by simp)))) (wN_lt hp1 _ _ _) hp1
theorem w_sum {p : Nat} (hp : PrimeN p) {xs : List Nat} (hx : ∀ y ∈ xs, y < p) (hn : xs.Nodup) (h0 : 0 < xs.length) (x : Nat) :
    Cg p (sumI xs.length fun i => (wN p xs i x : Nat)) 1 := by
  have hp1 : 1 ≤ p := by have := hp.1; omega
  refine Cg.trans ?_ (Cg.trans (interp hp (diffI hx hn) (v := fun i => ((invV p (topN p i (nthN xs i) xs xs.length) : Nat) : Int)) (fun i hi => inv_below hp hx hn hi) (L := [1]) (by simp; omega) (x : Int)) (.of_eq (by simp [evalZ])))
  refine sumI_cg _ fun k _ => ?_
  exact (wN_cg hp1 hx k x).trans (.of_eq (by simp [evalZ]))

/-! ### The polynomial through points -/
/-- Two polynomials with no more coefficients than there are places, the same at each. -/
theorem uniqN {p : Nat} (hp : PrimeN p) {xs : List Nat} (hx : ∀ y ∈ xs, y < p) (hn : xs.Nodup) {L M : List Nat} (hL : L.length ≤ xs.length) (hM : M.length ≤ xs.length)
    (hLp : ∀ c ∈ L, c < p) (hMp : ∀ c ∈ M, c < p) (he : ∀ i, i < xs.length → evN p L (nthN xs i) = evN p M (nthN xs i)) : ∀ k, nthN L k = nthN M k := by
  have hp1 : 1 ≤ p := by have := hp.1; omega
  have hz := zero_of_places hp (diffI hx hn) (L := addP (ofN L) (smulP (-1) (ofN M))) (by rw [addP_len, smulP_len, len_ofN, len_ofN]; omega) (fun i hi => by
    rw [addP_eval, smulP_eval]
    have h1 := (cg_ev p (nthN xs i) L).symm.trans ((Cg.of_eq (by rw [he i hi])).trans (cg_ev p (nthN xs i) M))
    exact (h1.add (Cg.refl p _)).trans (.of_eq (by omega)))
  have hg : ∀ (L M : List Nat), (∀ c ∈ addP (ofN L) (smulP (-1) (ofN M)), Cg p c 0) → ∀ k, Cg p ((nthN L k : Int) - (nthN M k : Int)) 0 := by
    intro L
    induction L with
    | nil =>
      intro M
      induction M with
      | nil => intro _ k; simp [nthN_nil]; rfl
      | cons b M ih =>
        intro h k
        have h' : ∀ c ∈ smulP (-1) (ofN (b :: M)), Cg p c 0 := by simpa [ofN, addP] using h
        cases k with
        | zero =>
          have := h' (-1 * (b : Int)) (by simp [smulP, ofN])
          rw [nthN_nil, nthN_head]; exact (Cg.of_eq (by omega)).trans this
        | succ k =>
          rw [nthN_cons]
          have := ih (by
            intro c hc
            refine h' c ?_
            have : c ∈ smulP (-1) (ofN M) := by cases M <;> simpa [ofN, addP] using hc
            simp only [smulP, ofN, List.map_cons, List.mem_cons] at this ⊢
            exact .inr this) k
          simpa [nthN_nil] using this
    | cons a L ih =>
      intro M h k
      cases M with
      | nil =>
        have h' : ∀ c ∈ ofN (a :: L), Cg p c 0 := by simpa [ofN, addP, smulP] using h
        rw [nthN_nil]
        by_cases hk : k < (a :: L).length
        · have := h' (nthN (a :: L) k : Nat) (by rw [ofN, List.mem_map]; exact ⟨_, nthN_mem hk, rfl⟩)
          exact (Cg.of_eq (by omega)).trans this
        · rw [nthN_ge (by omega)]; rfl
      | cons b M =>
        have h' : ∀ c ∈ ((a : Int) + -1 * (b : Int)) :: addP (ofN L) (smulP (-1) (ofN M)), Cg p c 0 := h
        cases k with
        | zero => rw [nthN_head, nthN_head]; exact (Cg.of_eq (show (a : Int) - b = (a : Int) + -1 * (b : Int) by omega)).trans (h' _ (List.mem_cons_self ..))
        | succ k => rw [nthN_cons, nthN_cons]; exact ih M (fun c hc => h' c (by simp [hc])) k
  intro k
  exact Cg.nat (p := p) (Cg.of_sub (hg L M hz k)) (nthN_lt hp1 hLp k) (nthN_lt hp1 hMp k)

/-- Newton's way: what there is, and the polynomial that is 0 at the places before. -/
def nwN (p : Nat) (xs ys : List Nat) : Nat → List Nat × List Nat
  | 0 => ([], [fone p])
  | n + 1 =>
    (linN p (nwN p xs ys n).1 (nwN p xs ys n).2 (fmul p (fsub p (nthN ys n) (evN p (nwN p xs ys n).1 (nthN xs n))) (invV p (evN p (nwN p xs ys n).2 (nthN xs n)))),
     mulN p (nwN p xs ys n).2 [fsub p 0 (nthN xs n), fone p])
def thN (p : Nat) (xs ys : List Nat) : List Nat := shN (nwN p xs ys xs.length).1
theorem nwN_lt {p : Nat} (hp : 1 ≤ p) (xs ys : List Nat) : ∀ n, (∀ c ∈ (nwN p xs ys n).1, c < p) ∧ ∀ c ∈ (nwN p xs ys n).2, c < p
  | 0 => ⟨by simp [nwN], by intro c hc; simp [nwN] at hc; rw [hc]; exact fone_lt hp⟩
  | n + 1 => ⟨linN_lt hp, mulN_lt hp _ _⟩
theorem nwN_len (p : Nat) (xs ys : List Nat) : ∀ n, (nwN p xs ys n).1.length ≤ n ∧ (nwN p xs ys n).2.length ≤ n + 1
  | 0 => ⟨by simp [nwN], by simp [nwN]⟩
  | n + 1 => by
    obtain ⟨h1, h2⟩ := nwN_len p xs ys n
    refine ⟨?_, ?_⟩
    · show (linN p _ _ _).length ≤ _
      rw [linN_len]; omega
    · show (mulN p _ _).length ≤ _
      have := mulN_len p (nwN p xs ys n).2 [fsub p 0 (nthN xs n), fone p]
      simp at this; omega
theorem lin_eval (p : Nat) (A B : List Nat) (c : Nat) (x : Int) : Cg p (evalZ (ofN (linN p A B c)) x) (evalZ (ofN A) x + c * evalZ (ofN B) x) := by
  rw [evalZ_sum x (linN p A B c) (max A.length B.length) (by rw [linN_len]; exact Nat.le_refl _), evalZ_sum x A (max A.length B.length) (by omega), evalZ_sum x B (max A.length B.length) (by omega), ← sumI_mul, ← sumI_add]
  refine sumI_cg _ fun k hk => ?_
  rw [linN_nth hk]
  refine (((cg_add p _ _).trans ((Cg.refl p _).add (cg_mul p _ _))).mul (Cg.refl p _)).trans (.of_eq (by grind))
theorem nwN_zero {p : Nat} (hp : 1 ≤ p) {xs : List Nat} (hx : ∀ y ∈ xs, y < p) (ys : List Nat) (x : Int) : ∀ n, Cg p (evalZ (ofN (nwN p xs ys n).2) x) (prodE n n fun k => x - (nthN xs k : Nat))
  | 0 => (Cg.of_eq (by simp [nwN, ofN, evalZ])).trans (cg_one p)
  | n + 1 => by
    have ih := nwN_zero hp hx ys x n
    show Cg p (evalZ (ofN (mulN p _ _)) x) _
    refine (mul_eval p _ _ x hp).trans ?_
    have e : evalZ (ofN [fsub p 0 (nthN xs n), fone p]) x = (fsub p 0 (nthN xs n) : Nat) + x * (fone p : Nat) := by simp [ofN, evalZ]
    rw [e]
    have h1 : Cg p ((fsub p 0 (nthN xs n) : Nat) + x * (fone p : Nat)) (x - (nthN xs n : Nat)) :=
      ((cg_sub p 0 _ (Nat.le_of_lt (nthN_lt hp hx n))).add ((Cg.refl p x).mul (cg_one p))).trans (.of_eq (by omega))
    refine (ih.mul h1).trans (.of_eq ?_)
    have e2 : ∀ m i j : Nat, m ≤ i → m ≤ j → ∀ f : Nat → Int, prodE i m f = prodE j m f := by
      intro m
      induction m with
      | zero => intros; rfl
      | succ m ih => intro i j hi hj f; simp only [prodE]; rw [if_neg (by omega), if_neg (by omega), ih i j (by omega) (by omega)]
    show _ = prodE (n + 1) (n + 1) _
    rw [show prodE (n + 1) (n + 1) (fun k => x - ((nthN xs k : Nat) : Int)) = prodE (n + 1) n (fun k => x - ((nthN xs k : Nat) : Int)) * (x - (nthN xs n : Nat)) from by simp only [prodE]; rw [if_neg (by omega)]]
    rw [e2 n n (n + 1) (Nat.le_refl _) (by omega)]
theorem nwN_at {p : Nat} (hp : PrimeN p) {xs : List Nat} (hx : ∀ y ∈ xs, y < p) (hn : xs.Nodup) {ys : List Nat} (hy : ∀ y ∈ ys, y < p) :
    ∀ n, n ≤ xs.length → ∀ j, j < n → Cg p (evalZ (ofN (nwN p xs ys n).1) (nthN xs j : Nat)) (nthN ys j : Nat)
  | 0, _, j, hj => absurd hj (by omega)
  | n + 1, hnl, j, hj => by
    have hp1 : 1 ≤ p := by have := hp.1; omega
    show Cg p (evalZ (ofN (linN p _ _ _)) _) _
    refine (lin_eval p _ _ _ _).trans ?_
    have hzz := nwN_zero hp1 hx ys (nthN xs j : Nat) n
    by_cases hjn : j = n
    · subst hjn
      have hne : ¬ Cg p (evalZ (ofN (nwN p xs ys j).2) (nthN xs j : Nat)) 0 := fun h =>
        prodE_ne hp (i := j) (f := fun k => ((nthN xs j : Nat) : Int) - (nthN xs k : Nat)) j (fun k hk _ hc => diffI hx hn j k (by omega) (by omega) (by omega) (Cg.of_sub hc)) (hzz.symm.trans h)
      have hz2 := cg_ev p (nthN xs j) (nwN p xs ys j).2
      have hne2 : ¬ Cg p (evN p (nwN p xs ys j).2 (nthN xs j) : Nat) 0 := fun h => hne (hz2.symm.trans h)
      rw [invV_of_ne hne2]
      generalize hE : evN p (nwN p xs ys j).2 (nthN xs j) = E at *
      have hi := cg_inv hp hne2
      have ho := cg_ev p (nthN xs j) (nwN p xs ys j).1
      have hOp := evN_lt hp1 (nwN p xs ys j).1 (nthN xs j)
      generalize evN p (nwN p xs ys j).1 (nthN xs j) = O at *
      have h1 := (cg_mul p (fsub p (nthN ys j) O) (finv p E)).mul hz2.symm
      have h2 := (cg_sub p (nthN ys j) O (Nat.le_of_lt hOp)).mul hi
      refine (ho.symm.add (h1.trans ((Cg.of_eq ?_).trans h2))).trans (.of_eq (by omega))
      grind
    · have h0 := prodE_zero (p := p) (i := n) (f := fun k => ((nthN xs j : Nat) : Int) - (nthN xs k : Nat)) n j (by omega) hjn (Cg.of_eq (by omega))
      have ih := nwN_at hp hx hn hy n (by omega) j (by omega)
      exact (ih.add ((Cg.refl p _).mul (hzz.trans h0))).trans (.of_eq (by simp))
end Go.Proofs.YtkjpnhhkebbmdaaDoor
