/-
  Polynomials as the program has them: lists of elements. Values, degrees, products, weights, the polynomial through points, division; plain, no program in sight.
  Polynomials: the one through points, as the program and as the document make it; division. Plain, no program in sight.
  Polynomials: the library's walk of a list from its end; values and degrees.
  Polynomials: the program's values and degrees.
  Polynomials: the program's degrees; copies; polynomials without the zeros at their end.
  Polynomials: copies; polynomials without the zeros at their end, by the program and by the document; the document's values and degrees.
  Polynomials: the document's values, degrees, and polynomials without the zeros at their end.
  Polynomials: products, by the program and by the document.
  Polynomials: products by the document; which places are different, by the program (a map) and by the document.
  Polynomials: weights of places, by the program.
  Conditions: those that each theorem names.
-/
import Derived.Test.YtlhipgejiacklaaDoorM1
import Derived.RangeFuncNested
import Derived.RangeFuncBound
import Derived.RangeFuncCalls
import Derived.RangeFuncLeaves
import Derived.RangeFuncBox
import Derived.Shelf.Abstract
import Derived.Shelf.RegionOpen
import Derived.OwnWalkIn
import Derived.TacticsInMore
import Derived.LoopNIn
import Derived.LoopIn
import Derived.StillTailTactics
import Derived.Maps.OwnOps
import Derived.Maps.OwnSet
import Derived.Maps.Views
set_option linter.unusedVariables false
set_option linter.unusedSimpArgs false
namespace Go.Proofs.YtlhipgejiacklaaDoor

/-! ### Values -/
def evN (p : Nat) : List Nat → Nat → Nat
  | [], _ => 0
  | c :: L, x => fadd p (fmul p (evN p L x) x) c
theorem evN_lt {p : Nat} (hp : 1 ≤ p) : ∀ (L : List Nat) (x : Nat), evN p L x < p
  | [], _ => hp
  | _ :: _, _ => fadd_lt hp _ _
theorem cg_ev (p : Nat) (x : Nat) : ∀ L : List Nat, Cg p (evN p L x : Nat) (evalZ (ofN L) x)
  | [] => rfl
  | c :: L => by
    refine (cg_add p _ c).trans ?_
    refine (((cg_mul p _ x).trans ((cg_ev p x L).mul (Cg.refl p _))).add (Cg.refl p _)).trans (.of_eq ?_)
    simp only [ofN, List.map_cons, evalZ]; grind
theorem nthN_cons (c : Nat) (L : List Nat) (k : Nat) : nthN (c :: L) (k + 1) = nthN L k := by simp [nthN]
theorem nthN_head (c : Nat) (L : List Nat) : nthN (c :: L) 0 = c := by simp [nthN]
theorem nthN_nil (k : Nat) : nthN [] k = 0 := by simp [nthN]
theorem evalZ_sum (x : Int) : ∀ (L : List Nat) (N : Nat), L.length ≤ N → evalZ (ofN L) x = sumI N fun n => (nthN L n : Int) * x ^ n
  | [], N, _ => by
    rw [sumI_ext (g := fun _ => 0 * 0) N (fun k _ => by simp [nthN]), sumI_mul]; simp [ofN, evalZ]
  | c :: L, 0, h => absurd h (by simp)
  | c :: L, N + 1, h => by
    have ih := evalZ_sum x L N (by simp at h; omega)
    have hs : ∀ (f : Nat → Int) (n : Nat), sumI (n + 1) f = f 0 + sumI n (fun k => f (k + 1)) := by
      intro f n
      induction n with
      | zero => simp [sumI]
      | succ n ih => simp only [sumI] at ih ⊢; omega
    rw [hs]
    have e : sumI N (fun k => (nthN (c :: L) (k + 1) : Int) * x ^ (k + 1)) = x * sumI N fun n => (nthN L n : Int) * x ^ n := by
      rw [← sumI_mul]; refine sumI_ext N fun k _ => ?_
      rw [nthN_cons, Int.pow_succ]; grind
    rw [e, ← ih, nthN_head]
    simp [ofN, evalZ]
theorem evalZ_nth {L M : List Nat} (h : ∀ k, nthN L k = nthN M k) (x : Int) : evalZ (ofN L) x = evalZ (ofN M) x := by
  rw [evalZ_sum x L (max L.length M.length) (by omega), evalZ_sum x M (max L.length M.length) (by omega)]
  exact sumI_ext _ fun k _ => by rw [h k]
theorem evN_nth {p : Nat} (hp : 1 ≤ p) {L M : List Nat} (h : ∀ k, nthN L k = nthN M k) (x : Nat) : evN p L x = evN p M x :=
  Cg.nat (((cg_ev p x L).trans (.of_eq (evalZ_nth h x))).trans (cg_ev p x M).symm) (evN_lt hp _ _) (evN_lt hp _ _)

/-! ### Degrees -/
/-- How many coefficients there are up to the last that is not 0. -/
def dgN : List Nat → Nat
  | [] => 0
  | c :: L => if dgN L = 0 then (if c = 0 then 0 else 1) else dgN L + 1
theorem dgN_le : ∀ L : List Nat, dgN L ≤ L.length
  | [] => Nat.le_refl _
  | c :: L => by
    have := dgN_le L
    simp only [dgN, List.length_cons]
    split
    · split <;> omega
    · omega
theorem dgN_above : ∀ (L : List Nat) (k : Nat), dgN L ≤ k → nthN L k = 0
  | [], k, _ => nthN_nil k
  | c :: L, k, h => by
    simp only [dgN] at h
    by_cases h0 : dgN L = 0
    · rw [if_pos h0] at h
      cases k with
      | zero =>
        rw [nthN_head]
        by_cases hc : c = 0
        · exact hc
        · rw [if_neg hc] at h; omega
      | succ k => rw [nthN_cons]; exact dgN_above L k (by omega)
    · rw [if_neg h0] at h
      cases k with
      | zero => omega
      | succ k => rw [nthN_cons]; exact dgN_above L k (by omega)
theorem dgN_top : ∀ (L : List Nat), 0 < dgN L → nthN L (dgN L - 1) ≠ 0
  | [], h => absurd h (by simp [dgN])
  | c :: L, h => by
    by_cases h0 : dgN L = 0
    · by_cases hc : c = 0
      · simp [dgN, h0, hc] at h
      · have : dgN (c :: L) = 1 := by simp [dgN, h0, hc]
        rw [this, nthN_head]; exact hc
    · have : dgN (c :: L) = dgN L + 1 := by simp [dgN, h0]
      have ih := dgN_top L (by omega)
      rw [this, show dgN L + 1 - 1 = (dgN L - 1) + 1 by omega, nthN_cons]; exact ih
theorem dgN_eq {L : List Nat} {d : Nat} (h : ∀ k, d ≤ k → nthN L k = 0) (ht : 0 < d → nthN L (d - 1) ≠ 0) : dgN L = d := by
  rcases Nat.lt_trichotomy (dgN L) d with h1 | h1 | h1
  · exact absurd (dgN_above L (d - 1) (by omega)) (ht (by omega))
  · exact h1
  · exact absurd (h (dgN L - 1) (by omega)) (dgN_top L (by omega))
def shN (L : List Nat) : List Nat := L.take (dgN L)
theorem shN_len (L : List Nat) : (shN L).length = dgN L := by have := dgN_le L; simp [shN]; omega
theorem shN_nth (L : List Nat) (k : Nat) : nthN (shN L) k = nthN L k := by
  by_cases h : k < dgN L
  · simp [nthN, shN, List.getD_eq_getElem?_getD, h]
  · rw [dgN_above L k (by omega), nthN_ge (by rw [shN_len]; omega)]
theorem dgN_ext {L M : List Nat} (h : ∀ k, nthN L k = nthN M k) : dgN L = dgN M :=
  dgN_eq (fun k hk => by rw [h]; exact dgN_above M k hk) (fun hd => by rw [h]; exact dgN_top M hd)
theorem shN_ext {L M : List Nat} (h : ∀ k, nthN L k = nthN M k) : shN L = shN M := by
  have hd := dgN_ext h
  refine extN (by rw [shN_len, shN_len, hd]) fun k _ => by rw [shN_nth, shN_nth, h]
theorem shN_lt {p : Nat} {L : List Nat} (h : ∀ x ∈ L, x < p) : ∀ x ∈ shN L, x < p := fun x hx => h x (List.mem_of_mem_take hx)
theorem shN_last {L : List Nat} (h : 0 < (shN L).length) : nthN (shN L) ((shN L).length - 1) ≠ 0 := by
  rw [shN_nth]; rw [shN_len] at h ⊢; exact dgN_top L h
theorem dgN_sh (L : List Nat) : dgN (shN L) = dgN L := dgN_ext (shN_nth L)
theorem dgN_lt_of {L : List Nat} {n : Nat} (h : ∀ k, n ≤ k → nthN L k = 0) : dgN L ≤ n := by
  rcases Nat.lt_or_ge n (dgN L) with h1 | h1
  · exact absurd (h (dgN L - 1) (by omega)) (dgN_top L (by omega))
  · exact h1

/-! ### Products -/
/-- Coefficient n of the product, the first i rows. -/
def cfN (p : Nat) (a b : List Nat) (n : Nat) : Nat → Nat
  | 0 => 0
  | i + 1 => if i ≤ n then fadd p (cfN p a b n i) (fmul p (nthN a i) (nthN b (n - i))) else cfN p a b n i
theorem cfN_lt {p : Nat} (hp : 1 ≤ p) (a b : List Nat) (n : Nat) : ∀ i, cfN p a b n i < p
  | 0 => hp
  | i + 1 => by
    simp only [cfN]; split
    · exact fadd_lt hp _ _
    · exact cfN_lt hp a b n i
def cvI (a b : List Nat) (n : Nat) (j : Nat) : Int := if j ≤ n then (nthN a j : Int) * (nthN b (n - j) : Int) else 0
theorem cfN_cg (p : Nat) (a b : List Nat) (n : Nat) : ∀ i, Cg p (cfN p a b n i : Nat) (sumI i (cvI a b n))
  | 0 => rfl
  | i + 1 => by
    have ih := cfN_cg p a b n i
    by_cases h : i ≤ n
    · simp only [cfN, sumI, cvI, if_pos h]
      exact (cg_add p _ _).trans (ih.add (cg_mul p _ _))
    · simp only [cfN, sumI, cvI, if_neg h]
      exact ih.trans (.of_eq (by omega))
def rowsN (p : Nat) (a b : List Nat) : List Nat := (List.range (a.length + b.length - 1)).map fun n => cfN p a b n a.length
theorem rowsN_len (p : Nat) (a b : List Nat) : (rowsN p a b).length = a.length + b.length - 1 := by simp [rowsN]
theorem cfN_past (p : Nat) (a b : List Nat) (n : Nat) (h : a.length + b.length - 1 ≤ n) (hp : 1 ≤ p) : ∀ i, i ≤ a.length → cfN p a b n i = 0
  | 0, _ => rfl
  | i + 1, hi => by
    have ih := cfN_past p a b n h hp i (by omega)
    simp only [cfN]
    rw [ih, nthN_ge (L := b) (k := n - i) (by omega)]
    simp [fadd, fmul]
theorem rowsN_nth (p : Nat) (a b : List Nat) (n : Nat) (hp : 1 ≤ p) : nthN (rowsN p a b) n = cfN p a b n a.length := by
  by_cases h : n < a.length + b.length - 1
  · rw [nthN_eq (by rw [rowsN_len]; exact h)]; simp [rowsN]
  · rw [nthN_ge (by rw [rowsN_len]; omega), cfN_past p a b n (by omega) hp _ (Nat.le_refl _)]
theorem rowsN_lt {p : Nat} (hp : 1 ≤ p) (a b : List Nat) : ∀ x ∈ rowsN p a b, x < p := fun x hx => by
  obtain ⟨n, _, rfl⟩ := List.mem_map.1 hx
  exact cfN_lt hp _ _ _ _
/-- The product, short. -/
def mulN (p : Nat) (a b : List Nat) : List Nat := if a.length = 0 ∨ b.length = 0 then [] else shN (rowsN p a b)
theorem mulN_nth (p : Nat) (a b : List Nat) (n : Nat) (hp : 1 ≤ p) : nthN (mulN p a b) n = cfN p a b n a.length := by
  unfold mulN
  split
  · rename_i h
    rw [nthN_nil]
    rcases h with h | h
    · rw [h]; rfl
    · refine Cg.nat (p := p) (Cg.symm ((cfN_cg p a b n _).trans (sumI_zero _ fun k _ => ?_))) hp (cfN_lt hp _ _ _ _)
      unfold cvI; split
      · rw [nthN_ge (L := b) (by omega)]; exact .of_eq (by simp)
      · rfl
  · rw [shN_nth, rowsN_nth p a b n hp]
theorem mulN_lt {p : Nat} (hp : 1 ≤ p) (a b : List Nat) : ∀ x ∈ mulN p a b, x < p := by
  unfold mulN; split
  · intro x hx; cases hx
  · exact shN_lt (rowsN_lt hp a b)
theorem mulN_len (p : Nat) (a b : List Nat) : (mulN p a b).length ≤ a.length + b.length - 1 := by
  unfold mulN; split
  · simp
  · rw [shN_len]; have := dgN_le (rowsN p a b); rw [rowsN_len] at this; exact this
theorem sum_shift (g : Nat → Int) (x : Int) (i : Nat) : ∀ M, sumI (i + M) (fun n => (if i ≤ n then g (n - i) else 0) * x ^ n) = x ^ i * sumI M fun m => g m * x ^ m
  | 0 => by
    have : ∀ k, k ≤ i → sumI k (fun n => (if i ≤ n then g (n - i) else 0) * x ^ n) = 0 := by
      intro k
      induction k with
      | zero => intro _; rfl
      | succ k ih => intro hk; simp only [sumI]; rw [ih (by omega), if_neg (by omega)]; simp
    simp only [Nat.add_zero, sumI]; rw [this i (Nat.le_refl _)]; simp
  | M + 1 => by
    have ih := sum_shift g x i M
    rw [← Nat.add_assoc]
    simp only [sumI]
    rw [ih, if_pos (by omega), show i + M - i = M by omega, Int.mul_add, Int.pow_add]
    grind
theorem rows_eval (a b : List Nat) (x : Int) (N : Nat) : ∀ i, i + b.length ≤ N → sumI N (fun n => sumI i (cvI a b n) * x ^ n) = sumI i (fun j => (nthN a j : Int) * x ^ j) * evalZ (ofN b) x
  | 0, _ => by
    rw [sumI_ext (g := fun _ => 0 * 0) N (fun k _ => by simp [sumI]), sumI_mul]; simp [sumI]
  | i + 1, h => by
    have ih := rows_eval a b x N i (by omega)
    have e : sumI N (fun n => sumI (i + 1) (cvI a b n) * x ^ n) = sumI N (fun n => sumI i (cvI a b n) * x ^ n) + sumI N (fun n => cvI a b n i * x ^ n) := by
      rw [← sumI_add]; refine sumI_ext N fun k _ => ?_
      simp only [sumI]; grind
    rw [e, ih]
    have hs := sum_shift (fun m => (nthN a i : Int) * (nthN b m : Int)) x i (N - i)
    rw [show i + (N - i) = N by omega] at hs
    have e2 : sumI N (fun n => cvI a b n i * x ^ n) = (nthN a i : Int) * x ^ i * evalZ (ofN b) x := by
      rw [show (fun n => cvI a b n i * x ^ n) = fun n => (if i ≤ n then (nthN a i : Int) * (nthN b (n - i) : Int) else 0) * x ^ n from rfl, hs, evalZ_sum x b (N - i) (by omega)]
      rw [show sumI (N - i) (fun m => (nthN a i : Int) * (nthN b m : Int) * x ^ m) = (nthN a i : Int) * sumI (N - i) (fun m => (nthN b m : Int) * x ^ m) from by
        rw [← sumI_mul]; exact sumI_ext _ fun k _ => by grind]
      grind
    rw [e2]
    simp only [sumI]; grind
theorem mul_eval (p : Nat) (a b : List Nat) (x : Int) (hp : 1 ≤ p) : Cg p (evalZ (ofN (mulN p a b)) x) (evalZ (ofN a) x * evalZ (ofN b) x) := by
  have hl := mulN_len p a b
  rw [evalZ_sum x (mulN p a b) (a.length + b.length) (by omega)]
  refine (sumI_cg (g := fun n => sumI a.length (cvI a b n) * x ^ n) _ fun k _ => ?_).trans (.of_eq ?_)
  · exact (Cg.of_eq (by rw [mulN_nth p a b k hp])).trans ((cfN_cg p a b k _).mul (Cg.refl p _))
  · rw [rows_eval a b x _ _ (Nat.le_refl _), evalZ_sum x a a.length (Nat.le_refl _)]

/-! ### Weights -/
def topN (p i x : Nat) (xs : List Nat) : Nat → Nat
  | 0 => fone p
  | n + 1 => if n = i then topN p i x xs n else fmul p (topN p i x xs n) (fsub p x (nthN xs n))
theorem topN_lt {p : Nat} (hp : 1 ≤ p) (i x : Nat) (xs : List Nat) : ∀ n, topN p i x xs n < p
  | 0 => fone_lt hp
  | n + 1 => by
    simp only [topN]; split
    · exact topN_lt hp i x xs n
    · exact fmul_lt hp _ _
theorem topN_cg {p : Nat} (hp : 1 ≤ p) (i x : Nat) (xs : List Nat) (hx : ∀ y ∈ xs, y < p) : ∀ n, Cg p (topN p i x xs n : Nat) (prodE i n fun k => (x : Int) - (nthN xs k : Nat))
  | 0 => cg_one p
  | n + 1 => by
    have ih := topN_cg hp i x xs hx n
    by_cases h : n = i
    · simp only [topN, prodE, if_pos h]; exact ih
    · simp only [topN, prodE, if_neg h]
      exact (cg_mul p _ _).trans (ih.mul (cg_sub p x _ (Nat.le_of_lt (nthN_lt hp hx n))))
def wN (p : Nat) (xs : List Nat) (i x : Nat) : Nat := fmul p (topN p i x xs xs.length) (invV p (topN p i (nthN xs i) xs xs.length))
theorem wN_lt {p : Nat} (hp : 1 ≤ p) (xs : List Nat) (i x : Nat) : wN p xs i x < p := fmul_lt hp _ _
theorem invV_lt {p : Nat} (hp : 1 ≤ p) (a : Nat) : invV p a < p := by
  unfold invV; split
  · exact hp
  · exact fpow_lt hp _ _
def wsN (p : Nat) (xs : List Nat) (x : Nat) : List Nat := (List.range xs.length).map fun i => wN p xs i x
theorem wsN_len (p : Nat) (xs : List Nat) (x : Nat) : (wsN p xs x).length = xs.length := by simp [wsN]
theorem wsN_nth (p : Nat) (xs : List Nat) (x : Nat) {i : Nat} (h : i < xs.length) : nthN (wsN p xs x) i = wN p xs i x := by
  rw [nthN_eq (by rw [wsN_len]; exact h)]; simp [wsN]
theorem wsN_lt {p : Nat} (hp : 1 ≤ p) (xs : List Nat) (x : Nat) : ∀ y ∈ wsN p xs x, y < p := fun y hy => by
  obtain ⟨i, _, rfl⟩ := List.mem_map.1 hy
  exact wN_lt hp _ _ _
/-- The sum of the first n products. -/
def wgN (p : Nat) (ws ys : List Nat) : Nat → Nat
  | 0 => 0
  | n + 1 => fadd p (wgN p ws ys n) (fmul p (nthN ws n) (nthN ys n))
theorem wgN_lt {p : Nat} (hp : 1 ≤ p) (ws ys : List Nat) : ∀ n, wgN p ws ys n < p
  | 0 => hp
  | _ + 1 => fadd_lt hp _ _
theorem wgN_cg (p : Nat) (ws ys : List Nat) : ∀ n, Cg p (wgN p ws ys n : Nat) (sumI n fun k => (nthN ws k : Int) * (nthN ys k : Int))
  | 0 => rfl
  | n + 1 => (cg_add p _ _).trans ((wgN_cg p ws ys n).add (cg_mul p _ _))
theorem diffI {p : Nat} {xs : List Nat} (hx : ∀ y ∈ xs, y < p) (hn : xs.Nodup) : DiffI p xs.length (fun k => (nthN xs k : Nat)) := fun i k hi hk hne h => by
  have h1 := Cg.nat h (hx _ (nthN_mem hi)) (hx _ (nthN_mem hk))
  rw [nthN_eq hi, nthN_eq hk] at h1
  exact hne ((List.getElem?_inj hi hn).1 (by rw [List.getElem?_eq_getElem hi, List.getElem?_eq_getElem hk, h1]))
theorem below_ne {p : Nat} (hp : PrimeN p) {xs : List Nat} (hx : ∀ y ∈ xs, y < p) (hn : xs.Nodup) {i : Nat} (hi : i < xs.length) :
    ¬ Cg p (topN p i (nthN xs i) xs xs.length : Nat) 0 := fun h => by
  have h1 := prodE_ne hp (i := i) (f := fun k => ((nthN xs i : Nat) : Int) - (nthN xs k : Nat)) xs.length (fun k hk hki hc => diffI hx hn i k hi hk (by omega) (Cg.of_sub hc))
  exact h1 ((topN_cg (by have := hp.1; omega) i (nthN xs i) xs hx xs.length).symm.trans h)
theorem invV_of_ne {p a : Nat} (h : ¬ Cg p a 0) : invV p a = finv p a := by
  unfold invV; rw [if_neg]; rintro rfl; exact h rfl
theorem inv_below {p : Nat} (hp : PrimeN p) {xs : List Nat} (hx : ∀ y ∈ xs, y < p) (hn : xs.Nodup) {i : Nat} (hi : i < xs.length) :
    Cg p (prodE i xs.length (fun k => ((nthN xs i : Nat) : Int) - (nthN xs k : Nat)) * (invV p (topN p i (nthN xs i) xs xs.length) : Nat)) 1 := by
  have h0 := below_ne hp hx hn hi
  rw [invV_of_ne h0]
  exact ((topN_cg (by have := hp.1; omega) i (nthN xs i) xs hx xs.length).symm.mul (Cg.refl p _)).trans (cg_inv hp h0)
theorem wN_cg {p : Nat} (hp : 1 ≤ p) {xs : List Nat} (hx : ∀ y ∈ xs, y < p) (i x : Nat) :
    Cg p (wN p xs i x : Nat) (prodE i xs.length (fun k => (x : Int) - (nthN xs k : Nat)) * (invV p (topN p i (nthN xs i) xs xs.length) : Nat)) :=
  (cg_mul p _ _).trans ((topN_cg hp i x xs hx _).mul (Cg.refl p _))
/-- The values at the places give the value anywhere. -/
theorem interpN {p : Nat} (hp : PrimeN p) {xs : List Nat} (hx : ∀ y ∈ xs, y < p) (hn : xs.Nodup) {L ys : List Nat} (hl : L.length ≤ xs.length)
    (hy : ∀ i, i < xs.length → nthN ys i = evN p L (nthN xs i)) (x : Nat) : wgN p (wsN p xs x) ys xs.length = evN p L x := by
  have hp1 : 1 ≤ p := by have := hp.1; omega
  refine Cg.nat (p := p) ?_ (wgN_lt hp1 _ _ _) (evN_lt hp1 _ _)
  refine (wgN_cg p _ ys xs.length).trans (Cg.trans ?_ (cg_ev p x L).symm)
  refine Cg.trans ?_ (interp hp (diffI hx hn) (v := fun i => ((invV p (topN p i (nthN xs i) xs xs.length) : Nat) : Int)) (fun i hi => inv_below hp hx hn hi) (L := ofN L) (by rw [len_ofN]; exact hl) (x : Int))
  refine sumI_cg _ fun k hk => ?_
  rw [wsN_nth p xs x hk, hy k hk]
  exact (wN_cg hp1 hx k x).mul (cg_ev p _ L)
theorem wN_at {p : Nat} (hp : PrimeN p) {xs : List Nat} (hx : ∀ y ∈ xs, y < p) (hn : xs.Nodup) {k : Nat} (hk : k < xs.length) {i : Nat} (hi : i < xs.length) :
    wN p xs i (nthN xs k) = if i = k then 1 else 0 := by
  have hp1 : 1 ≤ p := by have := hp.1; omega
  have hw := wN_cg hp1 hx i (nthN xs k)
  by_cases h : i = k
  · subst h
    rw [if_pos rfl]
    exact Cg.nat (p := p) (hw.trans (inv_below hp hx hn hi)) (wN_lt hp1 _ _ _) (by have := hp.1; omega)
  · rw [if_neg h]
    have h0 := prodE_zero (p := p) (i := i) (f := fun m => ((nthN xs k : Nat) : Int) - (nthN xs m : Nat)) xs.length k hk (by omega) (Cg.of_eq (by omega))
    exact Cg.nat (p := p) (b := 0) (hw.trans ((h0.mul (Cg.refl p _)).trans (.of_eq (by simp)))) (wN_lt hp1 _ _ _) hp1
theorem w_sum {p : Nat} (hp : PrimeN p) {xs : List Nat} (hx : ∀ y ∈ xs, y < p) (hn : xs.Nodup) (h0 : 0 < xs.length) (x : Nat) :
    Cg p (sumI xs.length fun i => (wN p xs i x : Nat)) 1 := by
  have hp1 : 1 ≤ p := by have := hp.1; omega
  refine Cg.trans ?_ (Cg.trans (interp hp (diffI hx hn) (v := fun i => ((invV p (topN p i (nthN xs i) xs xs.length) : Nat) : Int)) (fun i hi => inv_below hp hx hn hi) (L := [1]) (by simp; omega) (x : Int)) (.of_eq (by simp [evalZ])))
  refine sumI_cg _ fun k _ => ?_
  exact (wN_cg hp1 hx k x).trans (.of_eq (by simp [evalZ]))

/-! ### The polynomial through points -/
/-- Two polynomials with no more coefficients than there are places, the same at each. -/
theorem uniqN {p : Nat} (hp : PrimeN p) {xs : List Nat} (hx : ∀ y ∈ xs, y < p) (hn : xs.Nodup) {L M : List Nat} (hL : L.length ≤ xs.length) (hM : M.length ≤ xs.length)
    (hLp : ∀ c ∈ L, c < p) (hMp : ∀ c ∈ M, c < p) (he : ∀ i, i < xs.length → evN p L (nthN xs i) = evN p M (nthN xs i)) : ∀ k, nthN L k = nthN M k := by
  have hp1 : 1 ≤ p := by have := hp.1; omega
  have hz := zero_of_places hp (diffI hx hn) (L := addP (ofN L) (smulP (-1) (ofN M))) (by rw [addP_len, smulP_len, len_ofN, len_ofN]; omega) (fun i hi => by
    rw [addP_eval, smulP_eval]
    have h1 := (cg_ev p (nthN xs i) L).symm.trans ((Cg.of_eq (by rw [he i hi])).trans (cg_ev p (nthN xs i) M))
    exact (h1.add (Cg.refl p _)).trans (.of_eq (by omega)))
  have hg : ∀ (L M : List Nat), (∀ c ∈ addP (ofN L) (smulP (-1) (ofN M)), Cg p c 0) → ∀ k, Cg p ((nthN L k : Int) - (nthN M k : Int)) 0 := by
    intro L
    induction L with
    | nil =>
      intro M
      induction M with
      | nil => intro _ k; simp [nthN_nil]; rfl
      | cons b M ih =>
        intro h k
        have h' : ∀ c ∈ smulP (-1) (ofN (b :: M)), Cg p c 0 := by simpa [ofN, addP] using h
        cases k with
        | zero =>
          have := h' (-1 * (b : Int)) (by simp [smulP, ofN])
          rw [nthN_nil, nthN_head]; exact (Cg.of_eq (by omega)).trans this
        | succ k =>
          rw [nthN_cons]
          have := ih (by
            intro c hc
            refine h' c ?_
            have : c ∈ smulP (-1) (ofN M) := by cases M <;> simpa [ofN, addP] using hc
            simp only [smulP, ofN, List.map_cons, List.mem_cons] at this ⊢
            exact .inr this) k
          simpa [nthN_nil] using this
    | cons a L ih =>
      intro M h k
      cases M with
      | nil =>
        have h' : ∀ c ∈ ofN (a :: L), Cg p c 0 := by simpa [ofN, addP, smulP] using h
        rw [nthN_nil]
        by_cases hk : k < (a :: L).length
        · have := h' (nthN (a :: L) k : Nat) (by rw [ofN, List.mem_map]; exact ⟨_, nthN_mem hk, rfl⟩)
          exact (Cg.of_eq (by omega)).trans this
        · rw [nthN_ge (by omega)]; rfl
      | cons b M =>
        have h' : ∀ c ∈ ((a : Int) + -1 * (b : Int)) :: addP (ofN L) (smulP (-1) (ofN M)), Cg p c 0 := h
        cases k with
        | zero => rw [nthN_head, nthN_head]; exact (Cg.of_eq (show (a : Int) - b = (a : Int) + -1 * (b : Int) by omega)).trans (h' _ (List.mem_cons_self ..))
        | succ k => rw [nthN_cons, nthN_cons]; exact ih M (fun c hc => h' c (by simp [hc])) k
  intro k
  exact Cg.nat (p := p) (Cg.of_sub (hg L M hz k)) (nthN_lt hp1 hLp k) (nthN_lt hp1 hMp k)

/-- Newton's way: what there is, and the polynomial that is 0 at the places before. -/
def nwN (p : Nat) (xs ys : List Nat) : Nat → List Nat × List Nat
  | 0 => ([], [fone p])
  | n + 1 =>
    (linN p (nwN p xs ys n).1 (nwN p xs ys n).2 (fmul p (fsub p (nthN ys n) (evN p (nwN p xs ys n).1 (nthN xs n))) (invV p (evN p (nwN p xs ys n).2 (nthN xs n)))),
     mulN p (nwN p xs ys n).2 [fsub p 0 (nthN xs n), fone p])
def thN (p : Nat) (xs ys : List Nat) : List Nat := shN (nwN p xs ys xs.length).1
theorem nwN_lt {p : Nat} (hp : 1 ≤ p) (xs ys : List Nat) : ∀ n, (∀ c ∈ (nwN p xs ys n).1, c < p) ∧ ∀ c ∈ (nwN p xs ys n).2, c < p
  | 0 => ⟨by simp [nwN], by intro c hc; simp [nwN] at hc; rw [hc]; exact fone_lt hp⟩
  | n + 1 => ⟨linN_lt hp, mulN_lt hp _ _⟩
theorem nwN_len (p : Nat) (xs ys : List Nat) : ∀ n, (nwN p xs ys n).1.length ≤ n ∧ (nwN p xs ys n).2.length ≤ n + 1
  | 0 => ⟨by simp [nwN], by simp [nwN]⟩
  | n + 1 => by
    obtain ⟨h1, h2⟩ := nwN_len p xs ys n
    refine ⟨?_, ?_⟩
    · show (linN p _ _ _).length ≤ _
      rw [linN_len]; omega
    · show (mulN p _ _).length ≤ _
      have := mulN_len p (nwN p xs ys n).2 [fsub p 0 (nthN xs n), fone p]
      simp at this; omega
theorem lin_eval (p : Nat) (A B : List Nat) (c : Nat) (x : Int) : Cg p (evalZ (ofN (linN p A B c)) x) (evalZ (ofN A) x + c * evalZ (ofN B) x) := by
  rw [evalZ_sum x (linN p A B c) (max A.length B.length) (by rw [linN_len]; exact Nat.le_refl _), evalZ_sum x A (max A.length B.length) (by omega), evalZ_sum x B (max A.length B.length) (by omega), ← sumI_mul, ← sumI_add]
  refine sumI_cg _ fun k hk => ?_
  rw [linN_nth hk]
  refine (((cg_add p _ _).trans ((Cg.refl p _).add (cg_mul p _ _))).mul (Cg.refl p _)).trans (.of_eq (by grind))
theorem nwN_zero {p : Nat} (hp : 1 ≤ p) {xs : List Nat} (hx : ∀ y ∈ xs, y < p) (ys : List Nat) (x : Int) : ∀ n, Cg p (evalZ (ofN (nwN p xs ys n).2) x) (prodE n n fun k => x - (nthN xs k : Nat))
  | 0 => (Cg.of_eq (by simp [nwN, ofN, evalZ])).trans (cg_one p)
  | n + 1 => by
    have ih := nwN_zero hp hx ys x n
    show Cg p (evalZ (ofN (mulN p _ _)) x) _
    refine (mul_eval p _ _ x hp).trans ?_
    have e : evalZ (ofN [fsub p 0 (nthN xs n), fone p]) x = (fsub p 0 (nthN xs n) : Nat) + x * (fone p : Nat) := by simp [ofN, evalZ]
    rw [e]
    have h1 : Cg p ((fsub p 0 (nthN xs n) : Nat) + x * (fone p : Nat)) (x - (nthN xs n : Nat)) :=
      ((cg_sub p 0 _ (Nat.le_of_lt (nthN_lt hp hx n))).add ((Cg.refl p x).mul (cg_one p))).trans (.of_eq (by omega))
    refine (ih.mul h1).trans (.of_eq ?_)
    have e2 : ∀ m i j : Nat, m ≤ i → m ≤ j → ∀ f : Nat → Int, prodE i m f = prodE j m f := by
      intro m
      induction m with
      | zero => intros; rfl
      | succ m ih => intro i j hi hj f; simp only [prodE]; rw [if_neg (by omega), if_neg (by omega), ih i j (by omega) (by omega)]
    show _ = prodE (n + 1) (n + 1) _
    rw [show prodE (n + 1) (n + 1) (fun k => x - ((nthN xs k : Nat) : Int)) = prodE (n + 1) n (fun k => x - ((nthN xs k : Nat) : Int)) * (x - (nthN xs n : Nat)) from by simp only [prodE]; rw [if_neg (by omega)]]
    rw [e2 n n (n + 1) (Nat.le_refl _) (by omega)]
theorem nwN_at {p : Nat} (hp : PrimeN p) {xs : List Nat} (hx : ∀ y ∈ xs, y < p) (hn : xs.Nodup) {ys : List Nat} (hy : ∀ y ∈ ys, y < p) :
    ∀ n, n ≤ xs.length → ∀ j, j < n → Cg p (evalZ (ofN (nwN p xs ys n).1) (nthN xs j : Nat)) (nthN ys j : Nat)
  | 0, _, j, hj => absurd hj (by omega)
  | n + 1, hnl, j, hj => by
    have hp1 : 1 ≤ p := by have := hp.1; omega
    show Cg p (evalZ (ofN (linN p _ _ _)) _) _
    refine (lin_eval p _ _ _ _).trans ?_
    have hzz := nwN_zero hp1 hx ys (nthN xs j : Nat) n
    by_cases hjn : j = n
    · subst hjn
      have hne : ¬ Cg p (evalZ (ofN (nwN p xs ys j).2) (nthN xs j : Nat)) 0 := fun h =>
        prodE_ne hp (i := j) (f := fun k => ((nthN xs j : Nat) : Int) - (nthN xs k : Nat)) j (fun k hk _ hc => diffI hx hn j k (by omega) (by omega) (by omega) (Cg.of_sub hc)) (hzz.symm.trans h)
      have hz2 := cg_ev p (nthN xs j) (nwN p xs ys j).2
      have hne2 : ¬ Cg p (evN p (nwN p xs ys j).2 (nthN xs j) : Nat) 0 := fun h => hne (hz2.symm.trans h)
      rw [invV_of_ne hne2]
      generalize hE : evN p (nwN p xs ys j).2 (nthN xs j) = E at *
      have hi := cg_inv hp hne2
      have ho := cg_ev p (nthN xs j) (nwN p xs ys j).1
      have hOp := evN_lt hp1 (nwN p xs ys j).1 (nthN xs j)
      generalize evN p (nwN p xs ys j).1 (nthN xs j) = O at *
      have h1 := (cg_mul p (fsub p (nthN ys j) O) (finv p E)).mul hz2.symm
      have h2 := (cg_sub p (nthN ys j) O (Nat.le_of_lt hOp)).mul hi
      refine (ho.symm.add (h1.trans ((Cg.of_eq ?_).trans h2))).trans (.of_eq (by omega))
      grind
    · have h0 := prodE_zero (p := p) (i := n) (f := fun k => ((nthN xs j : Nat) : Int) - (nthN xs k : Nat)) n j (by omega) hjn (Cg.of_eq (by omega))
      have ih := nwN_at hp hx hn hy n (by omega) j (by omega)
      exact (ih.add ((Cg.refl p _).mul (hzz.trans h0))).trans (.of_eq (by simp))
end Go.Proofs.YtlhipgejiacklaaDoor
namespace Go.Proofs.YtlhipgejiacklaaDoor

/-! ### Through points -/
theorem thN_len (p : Nat) (xs ys : List Nat) : (thN p xs ys).length ≤ xs.length := by
  unfold thN; rw [shN_len]; have := dgN_le (nwN p xs ys xs.length).1; have := (nwN_len p xs ys xs.length).1; omega
theorem thN_lt {p : Nat} (hp : 1 ≤ p) (xs ys : List Nat) : ∀ c ∈ thN p xs ys, c < p := shN_lt (nwN_lt hp xs ys _).1
theorem thN_at {p : Nat} (hp : PrimeN p) {xs : List Nat} (hx : ∀ y ∈ xs, y < p) (hn : xs.Nodup) {ys : List Nat} (hy : ∀ y ∈ ys, y < p) {j : Nat} (hj : j < xs.length) :
    evN p (thN p xs ys) (nthN xs j) = nthN ys j := by
  have hp1 : 1 ≤ p := by have := hp.1; omega
  unfold thN
  rw [evN_nth hp1 (shN_nth _)]
  exact Cg.nat (p := p) ((cg_ev p _ _).trans (nwN_at hp hx hn hy _ (Nat.le_refl _) j hj)) (evN_lt hp1 _ _) (nthN_lt hp1 hy j)
/-- A short polynomial with the values is the one through the points. -/
theorem thN_uniq {p : Nat} (hp : PrimeN p) {xs : List Nat} (hx : ∀ y ∈ xs, y < p) (hn : xs.Nodup) {ys : List Nat} (hy : ∀ y ∈ ys, y < p) {L : List Nat} (hl : L.length ≤ xs.length) (hLp : ∀ c ∈ L, c < p)
    (he : ∀ j, j < xs.length → evN p L (nthN xs j) = nthN ys j) : ∀ k, nthN (thN p xs ys) k = nthN L k := by
  have hp1 : 1 ≤ p := by have := hp.1; omega
  exact uniqN hp hx hn (thN_len p xs ys) hl (thN_lt hp1 xs ys) hLp fun j hj => by rw [thN_at hp hx hn hy hj, he j hj]
theorem thN_short (p : Nat) (xs ys : List Nat) : shN (thN p xs ys) = thN p xs ys := shN_ext (fun k => shN_nth _ k) |>.trans rfl
theorem thN_eq {p : Nat} (hp : PrimeN p) {xs : List Nat} (hx : ∀ y ∈ xs, y < p) (hn : xs.Nodup) {ys : List Nat} (hy : ∀ y ∈ ys, y < p) {L : List Nat} (hl : L.length ≤ xs.length) (hLp : ∀ c ∈ L, c < p)
    (he : ∀ j, j < xs.length → evN p L (nthN xs j) = nthN ys j) : thN p xs ys = shN L := by
  rw [← thN_short]; exact shN_ext (thN_uniq hp hx hn hy hl hLp he)

/-- The document's: the polynomial that is 0 at all other places. -/
def oneN (p i : Nat) (xs : List Nat) : Nat → List Nat
  | 0 => [fone p]
  | n + 1 => if n = i then oneN p i xs n else mulN p (oneN p i xs n) [fsub p 0 (nthN xs n), fone p]
theorem oneN_lt {p : Nat} (hp : 1 ≤ p) (i : Nat) (xs : List Nat) : ∀ n, ∀ c ∈ oneN p i xs n, c < p
  | 0 => by intro c hc; simp [oneN] at hc; rw [hc]; exact fone_lt hp
  | n + 1 => by
    simp only [oneN]; split
    · exact oneN_lt hp i xs n
    · exact mulN_lt hp _ _
theorem oneN_len (p i : Nat) (xs : List Nat) : ∀ n, (oneN p i xs n).length ≤ if i < n then n else n + 1
  | 0 => by simp [oneN]
  | n + 1 => by
    have ih := oneN_len p i xs n
    by_cases h : n = i
    · simp only [oneN, if_pos h]; rw [if_neg (by omega)] at ih; rw [if_pos (by omega)]; exact ih
    · simp only [oneN, if_neg h]
      have hm := mulN_len p (oneN p i xs n) [fsub p 0 (nthN xs n), fone p]
      simp at hm
      by_cases h2 : i < n
      · rw [if_pos h2] at ih; rw [if_pos (by omega)]; omega
      · rw [if_neg h2] at ih; rw [if_neg (by omega)]; omega
theorem lin1_eval {p : Nat} (y : Nat) (hy : y ≤ p) (x : Int) : Cg p (evalZ (ofN [fsub p 0 y, fone p]) x) (x - y) := by
  have e : evalZ (ofN [fsub p 0 y, fone p]) x = (fsub p 0 y : Nat) + x * (fone p : Nat) := by simp [ofN, evalZ]
  rw [e]
  exact ((cg_sub p 0 _ hy).add ((Cg.refl p x).mul (cg_one p))).trans (.of_eq (by omega))
theorem oneN_eval {p : Nat} (hp : 1 ≤ p) (i : Nat) {xs : List Nat} (hx : ∀ y ∈ xs, y < p) (x : Int) : ∀ n, Cg p (evalZ (ofN (oneN p i xs n)) x) (prodE i n fun k => x - (nthN xs k : Nat))
  | 0 => (Cg.of_eq (by simp [oneN, ofN, evalZ])).trans (cg_one p)
  | n + 1 => by
    have ih := oneN_eval hp i hx x n
    by_cases h : n = i
    · simp only [oneN, prodE, if_pos h]; exact ih
    · simp only [oneN, prodE, if_neg h]
      exact (mul_eval p _ _ x hp).trans (ih.mul (lin1_eval _ (Nat.le_of_lt (nthN_lt hp hx n)) x))
def rfN (p : Nat) (xs ys : List Nat) : Nat → List Nat
  | 0 => List.replicate xs.length 0
  | i + 1 => (List.range xs.length).map fun k => fadd p (nthN (rfN p xs ys i) k) (fmul p (fmul p (nthN (oneN p i xs xs.length) k) (invV p (topN p i (nthN xs i) xs xs.length))) (nthN ys i))
theorem rfN_len (p : Nat) (xs ys : List Nat) : ∀ i, (rfN p xs ys i).length = xs.length
  | 0 => by simp [rfN]
  | i + 1 => by simp [rfN]
theorem rfN_lt {p : Nat} (hp : 1 ≤ p) (xs ys : List Nat) : ∀ i, ∀ c ∈ rfN p xs ys i, c < p
  | 0 => by intro c hc; simp [rfN] at hc; omega
  | i + 1 => by
    intro c hc
    obtain ⟨k, _, rfl⟩ := List.mem_map.1 hc
    exact fadd_lt hp _ _
theorem rfN_nth (p : Nat) (xs ys : List Nat) (i k : Nat) (hk : k < xs.length) : nthN (rfN p xs ys (i + 1)) k = fadd p (nthN (rfN p xs ys i) k) (fmul p (fmul p (nthN (oneN p i xs xs.length) k) (invV p (topN p i (nthN xs i) xs xs.length))) (nthN ys i)) := by
  rw [nthN_eq (by rw [rfN_len]; exact hk)]; simp [rfN]
theorem rfN_eval {p : Nat} (hp : 1 ≤ p) {xs : List Nat} (hx : ∀ y ∈ xs, y < p) (ys : List Nat) (x : Int) : ∀ i, i ≤ xs.length →
    Cg p (evalZ (ofN (rfN p xs ys i)) x) (sumI i fun j => prodE j xs.length (fun k => x - (nthN xs k : Nat)) * (invV p (topN p j (nthN xs j) xs xs.length) : Nat) * (nthN ys j : Nat))
  | 0, _ => by
    rw [evalZ_sum x _ xs.length (by rw [rfN_len]; exact Nat.le_refl _)]
    exact sumI_zero _ fun k hk => .of_eq (by simp [rfN, nthN, List.getD_eq_getElem?_getD, hk])
  | i + 1, hi => by
    have ih := rfN_eval hp hx ys x i (by omega)
    rw [evalZ_sum x _ xs.length (by rw [rfN_len]; exact Nat.le_refl _)] at ih
    rw [evalZ_sum x _ xs.length (by rw [rfN_len]; exact Nat.le_refl _)]
    have ho := oneN_eval hp i hx x xs.length
    have hol := oneN_len p i xs xs.length
    rw [if_pos (by omega)] at hol
    rw [evalZ_sum x _ xs.length hol] at ho
    have h2 : Cg p (sumI xs.length fun n => (nthN (rfN p xs ys (i + 1)) n : Int) * x ^ n)
        (sumI xs.length fun n => (nthN (rfN p xs ys i) n : Int) * x ^ n + ((invV p (topN p i (nthN xs i) xs xs.length) : Nat) * (nthN ys i : Int)) * ((nthN (oneN p i xs xs.length) n : Int) * x ^ n)) := by
      refine sumI_cg _ fun k hk => ?_
      rw [rfN_nth p xs ys i k hk]
      have h3 := (cg_add p (nthN (rfN p xs ys i) k) (fmul p (fmul p (nthN (oneN p i xs xs.length) k) (invV p (topN p i (nthN xs i) xs xs.length))) (nthN ys i))).trans ((Cg.refl p _).add ((cg_mul p _ _).trans ((cg_mul p _ _).mul (Cg.refl p _))))
      exact (h3.mul (Cg.refl p _)).trans (.of_eq (by grind))
    rw [sumI_add, sumI_mul] at h2
    refine h2.trans ?_
    simp only [sumI]
    exact ih.add (((Cg.refl p _).mul ho).trans (.of_eq (by grind)))
/-- The document's polynomial is the program's. -/
theorem th_ref {p : Nat} (hp : PrimeN p) {xs : List Nat} (hx : ∀ y ∈ xs, y < p) (hn : xs.Nodup) {ys : List Nat} (hy : ∀ y ∈ ys, y < p) : thN p xs ys = shN (rfN p xs ys xs.length) := by
  have hp1 : 1 ≤ p := by have := hp.1; omega
  refine thN_eq hp hx hn hy (by rw [rfN_len]; exact Nat.le_refl _) (rfN_lt hp1 xs ys _) fun j hj => ?_
  refine Cg.nat (p := p) ((cg_ev p _ _).trans ((rfN_eval hp1 hx ys _ _ (Nat.le_refl _)).trans ?_)) (evN_lt hp1 _ _) (nthN_lt hp1 hy j)
  refine (sumI_one j _ hj (fun k hk hkj => ?_)).trans ?_
  · have h0 := prodE_zero (p := p) (i := k) (f := fun m => ((nthN xs j : Nat) : Int) - (nthN xs m : Nat)) xs.length j hj (by omega) (Cg.of_eq (by omega))
    exact ((h0.mul (Cg.refl p _)).mul (Cg.refl p _)).trans (.of_eq (by simp))
  · exact ((inv_below hp hx hn hj).mul (Cg.refl p _)).trans (.of_eq (by simp))
/-- A polynomial comes back from its points. -/
theorem th_back {p : Nat} (hp : PrimeN p) {xs : List Nat} (hx : ∀ y ∈ xs, y < p) (hn : xs.Nodup) {ys : List Nat} (hy : ∀ y ∈ ys, y < p) {L : List Nat} (hl : L.length ≤ xs.length) (hLp : ∀ c ∈ L, c < p)
    (he : ∀ j, j < xs.length → nthN ys j = evN p L (nthN xs j)) : thN p xs ys = shN L := thN_eq hp hx hn hy hl hLp fun j hj => (he j hj).symm

/-! ### Division -/
def stN (p : Nat) (b : List Nat) (d c m : Nat) (r : List Nat) : List Nat :=
  (List.range r.length).map fun j => if m ≤ j ∧ j ≤ m + d then fsub p (nthN r j) (fmul p c (nthN b (j - m))) else nthN r j
theorem stN_len (p : Nat) (b : List Nat) (d c m : Nat) (r : List Nat) : (stN p b d c m r).length = r.length := by simp [stN]
theorem stN_nth (p : Nat) (b : List Nat) (d c m : Nat) (r : List Nat) {j : Nat} (hj : j < r.length) : nthN (stN p b d c m r) j = if m ≤ j ∧ j ≤ m + d then fsub p (nthN r j) (fmul p c (nthN b (j - m))) else nthN r j := by
  rw [nthN_eq (by rw [stN_len]; exact hj)]; simp [stN]
theorem stN_in (p : Nat) (b : List Nat) (d c m : Nat) (r : List Nat) {j : Nat} (hj : j < r.length) (h : m ≤ j ∧ j ≤ m + d) : nthN (stN p b d c m r) j = fsub p (nthN r j) (fmul p c (nthN b (j - m))) := by
  rw [stN_nth p b d c m r hj, if_pos h]
theorem stN_out (p : Nat) (b : List Nat) (d c m : Nat) (r : List Nat) {j : Nat} (h : ¬ (m ≤ j ∧ j ≤ m + d)) : nthN (stN p b d c m r) j = nthN r j := by
  by_cases hj : j < r.length
  · rw [stN_nth p b d c m r hj, if_neg h]
  · rw [nthN_ge (by rw [stN_len]; omega), nthN_ge (by omega)]
theorem stN_lt {p : Nat} (hp : 1 ≤ p) (b : List Nat) (d c m : Nat) {r : List Nat} (hr : ∀ x ∈ r, x < p) : ∀ x ∈ stN p b d c m r, x < p := by
  intro x hx
  obtain ⟨j, hj, rfl⟩ := List.mem_map.1 hx
  split
  · exact fsub_lt hp _ _
  · exact nthN_lt hp hr j
def cN (p inv d : Nat) (r : List Nat) (m : Nat) : Nat := fmul p (nthN r (m + d)) inv
/-- The last m steps of a division. -/
def dvN (p : Nat) (b : List Nat) (d inv : Nat) : Nat → List Nat → List Nat → List Nat × List Nat
  | 0, r, q => (r, q)
  | m + 1, r, q => dvN p b d inv m (stN p b d (cN p inv d r m) m r) (q.set m (cN p inv d r m))
theorem fsub_zero {p x : Nat} (hx : x < p) : fsub p x 0 = x := by unfold fsub; rw [Nat.sub_zero, Nat.add_mod_right, Nat.mod_eq_of_lt hx]
theorem fmul_zero (p x : Nat) : fmul p 0 x = 0 := by unfold fmul; simp
theorem stN_zero {p : Nat} (hp : 1 ≤ p) (b : List Nat) (d m : Nat) {r : List Nat} (hr : ∀ x ∈ r, x < p) : stN p b d 0 m r = r := by
  refine extN (stN_len _ _ _ _ _ _) fun k hk => ?_
  rw [stN_len] at hk
  rw [stN_nth p b d 0 m r hk]
  split
  · rw [fmul_zero, fsub_zero (nthN_lt hp hr k)]
  · rfl
theorem set_zero {q : List Nat} {m : Nat} (h : nthN q m = 0) : q.set m 0 = q := by
  refine extN (by simp) fun k hk => ?_
  by_cases e : m = k
  · subst e; rw [nthN_set_same _ _ _ (by simpa using hk), h]
  · rw [nthN_set_other _ _ _ _ e]
/-- Steps at places that hold 0 change nothing. -/
theorem dvN_skip {p : Nat} (hp : 1 ≤ p) (b : List Nat) (d inv : Nat) {r q : List Nat} (hr : ∀ x ∈ r, x < p) (m1 : Nat) : ∀ m, m1 ≤ m → (∀ k, m1 + d ≤ k → nthN r k = 0) → (∀ k, k < m → nthN q k = 0) →
    dvN p b d inv m r q = dvN p b d inv m1 r q
  | 0, h, _, _ => by rw [show m1 = 0 by omega]
  | m + 1, h, hz, hq => by
    by_cases e : m1 = m + 1
    · rw [e]
    · have hc : cN p inv d r m = 0 := by unfold cN; rw [hz (m + d) (by omega), fmul_zero]
      show dvN p b d inv m (stN p b d (cN p inv d r m) m r) (q.set m (cN p inv d r m)) = _
      rw [hc, stN_zero hp b d m hr, set_zero (hq m (by omega))]
      exact dvN_skip hp b d inv hr m1 m (by omega) hz (fun k hk => hq k (by omega))
/-- The place of a step holds 0 after it. -/
theorem stN_top {p : Nat} (hp : PrimeN p) {b : List Nat} {d : Nat} (hb : ∀ x ∈ b, x < p) (hd : nthN b d ≠ 0) {r : List Nat} (hr : ∀ x ∈ r, x < p) {m : Nat} (hm : m + d < r.length) :
    nthN (stN p b d (cN p (invV p (nthN b d)) d r m) m r) (m + d) = 0 := by
  have hp1 : 1 ≤ p := by have := hp.1; omega
  have hbd : ¬ Cg p (nthN b d : Nat) 0 := fun h => hd (Cg.zero_nat h (nthN_lt hp1 hb d))
  rw [stN_in p b d _ m r hm ⟨by omega, by omega⟩, show m + d - m = d by omega]
  refine Cg.zero_nat (p := p) ?_ (fsub_lt hp1 _ _)
  refine (cg_sub p _ _ (Nat.le_of_lt (fmul_lt hp1 _ _))).trans ?_
  rw [invV_of_ne hbd]
  have h1 := (cg_mul p (cN p (finv p (nthN b d)) d r m) (nthN b d)).trans ((cg_mul p (nthN r (m + d)) (finv p (nthN b d))).mul (Cg.refl p _))
  have h2 := (Cg.refl p (nthN r (m + d) : Int)).mul (cg_inv hp hbd)
  exact ((Cg.refl p _).sub (h1.trans ((Cg.of_eq (by grind)).trans h2))).trans (.of_eq (by omega))
theorem dvN_len (p : Nat) (b : List Nat) (d inv : Nat) : ∀ (m : Nat) (r q : List Nat), (dvN p b d inv m r q).1.length = r.length ∧ (dvN p b d inv m r q).2.length = q.length
  | 0, _, _ => ⟨rfl, rfl⟩
  | m + 1, r, q => by
    have ih := dvN_len p b d inv m (stN p b d (cN p inv d r m) m r) (q.set m (cN p inv d r m))
    rw [stN_len, List.length_set] at ih; exact ih
theorem set_lt {p : Nat} {q : List Nat} (hq : ∀ x ∈ q, x < p) {c : Nat} (hc : c < p) (m : Nat) : ∀ x ∈ q.set m c, x < p := fun x hx => by
  rcases List.mem_or_eq_of_mem_set hx with h | h
  · exact hq x h
  · rw [h]; exact hc
theorem dvN_lt {p : Nat} (hp : 1 ≤ p) (b : List Nat) (d inv : Nat) : ∀ (m : Nat) (r q : List Nat), (∀ x ∈ r, x < p) → (∀ x ∈ q, x < p) → (∀ x ∈ (dvN p b d inv m r q).1, x < p) ∧ ∀ x ∈ (dvN p b d inv m r q).2, x < p
  | 0, _, _, hr, hq => ⟨hr, hq⟩
  | m + 1, r, q, hr, hq => dvN_lt hp b d inv m _ _ (stN_lt hp b d _ m hr) (set_lt hq (fmul_lt hp _ _) m)
theorem sumI_upd {f g : Nat → Int} (m : Nat) : ∀ N, m < N → (∀ k, k < N → k ≠ m → g k = f k) → sumI N g = sumI N f + (g m - f m)
  | 0, h, _ => absurd h (by omega)
  | N + 1, h, he => by
    simp only [sumI]
    by_cases e : m = N
    · subst e
      rw [sumI_ext m (fun k hk => he k (by omega) (by omega))]; omega
    · rw [sumI_upd m N (by omega) (fun k hk => he k (by omega)), he N (by omega) (by omega)]; omega
/-- What a division leaves: the quotient's product with the divisor and the rest are the dividend; the rest is short. -/
theorem dvN_spec {p : Nat} (hp : PrimeN p) {b : List Nat} {d : Nat} (hb : ∀ x ∈ b, x < p) (hd : nthN b d ≠ 0) (hbz : ∀ k, d < k → nthN b k = 0) (T : Nat → Int) :
    ∀ (m : Nat) (r q : List Nat), (∀ x ∈ r, x < p) → m ≤ q.length → (m = 0 ∨ m + d ≤ r.length) → (∀ k, m + d ≤ k → nthN r k = 0) → (∀ k, k < m → nthN q k = 0) →
      (∀ n, Cg p (sumI q.length (cvI q b n) + (nthN r n : Int)) (T n)) →
      (∀ n, Cg p (sumI q.length (cvI (dvN p b d (invV p (nthN b d)) m r q).2 b n) + (nthN (dvN p b d (invV p (nthN b d)) m r q).1 n : Int)) (T n)) ∧ ∀ k, d ≤ k → nthN (dvN p b d (invV p (nthN b d)) m r q).1 k = 0
  | 0, r, q, _, _, _, hz, _, hT => ⟨hT, fun k hk => hz k (by omega)⟩
  | m + 1, r, q, hr, hmq, hmr, hz, hq, hT => by
    have hp1 : 1 ≤ p := by have := hp.1; omega
    have hc := fmul_lt hp1 (nthN r (m + d)) (invV p (nthN b d))
    have key := dvN_spec hp hb hd hbz T m (stN p b d (cN p (invV p (nthN b d)) d r m) m r) (q.set m (cN p (invV p (nthN b d)) d r m)) (stN_lt hp1 b d _ m hr) (by simp; omega) (.inr (by rw [stN_len]; omega))
      (fun k hk => by
        by_cases e : k = m + d
        · subst e; exact stN_top hp hb hd hr (by omega)
        · rw [stN_out p b d _ m r (by omega)]; exact hz k (by omega))
      (fun k hk => by rw [nthN_set_other _ _ _ _ (by omega)]; exact hq k (by omega))
      (fun n => by
        refine Cg.trans ?_ (hT n)
        rw [List.length_set]
        have hs := sumI_upd (f := cvI q b n) (g := cvI (q.set m (cN p (invV p (nthN b d)) d r m)) b n) m q.length (by omega) (fun k _ hk => by
          unfold cvI; rw [nthN_set_other _ _ _ _ (by omega)])
        rw [hs]
        have e0 : cvI q b n m = 0 := by unfold cvI; rw [hq m (by omega)]; split <;> simp
        have e1 : cvI (q.set m (cN p (invV p (nthN b d)) d r m)) b n m = if m ≤ n then (cN p (invV p (nthN b d)) d r m : Int) * (nthN b (n - m) : Int) else 0 := by
          unfold cvI; rw [nthN_set_same _ _ _ (by omega)]
        rw [e0, e1]
        by_cases h1 : m ≤ n ∧ n ≤ m + d
        · rw [if_pos h1.1, stN_in p b d _ m r (by omega) h1]
          have h2 := (cg_sub p (nthN r n) _ (Nat.le_of_lt (fmul_lt hp1 (cN p (invV p (nthN b d)) d r m) (nthN b (n - m))))).trans ((Cg.refl p _).sub (cg_mul p _ _))
          exact ((Cg.refl p _).add h2).trans (.of_eq (by omega))
        · rw [stN_out p b d _ m r h1]
          by_cases h2 : m ≤ n
          · rw [if_pos h2, hbz (n - m) (by omega)]; exact .of_eq (by simp)
          · rw [if_neg h2]; exact .of_eq (by simp))
    rw [List.length_set] at key
    exact key
theorem sumI_past {f : Nat → Int} (n : Nat) : ∀ N, n ≤ N → (∀ k, n ≤ k → k < N → f k = 0) → sumI N f = sumI n f
  | 0, h, _ => by rw [show n = 0 by omega]
  | N + 1, h, hz => by
    by_cases e : n = N + 1
    · rw [e]
    · simp only [sumI]; rw [sumI_past n N (by omega) (fun k h1 h2 => hz k h1 (by omega)), hz N (by omega) (by omega)]; omega
theorem cvI_nth {a a' b : List Nat} (h : ∀ k, nthN a k = nthN a' k) (n : Nat) : cvI a b n = cvI a' b n := by
  funext j; unfold cvI; rw [h j]
/-- A product depends on the coefficients alone. -/
theorem mulN_short {p : Nat} (hp : 1 ≤ p) (q b : List Nat) (n : Nat) : Cg p (nthN (mulN p (shN q) b) n : Nat) (sumI q.length (cvI q b n)) := by
  rw [mulN_nth p _ b n hp]
  refine (cfN_cg p _ b n _).trans (.of_eq ?_)
  rw [cvI_nth (shN_nth q) n, shN_len]
  refine (sumI_past (dgN q) q.length (dgN_le q) fun k h1 _ => ?_).symm
  unfold cvI; rw [dgN_above q k h1]; split <;> simp
theorem divides {p : Nat} (hp : PrimeN p) {a b : List Nat} (ha : ∀ x ∈ a, x < p) (hb : ∀ x ∈ b, x < p) {d : Nat} (hd : nthN b d ≠ 0) (hbz : ∀ k, d < k → nthN b k = 0)
    {r q : List Nat} (h : dvN p b d (invV p (nthN b d)) (a.length - d) a (List.replicate (a.length - d) 0) = (r, q)) :
    shN (linN p (mulN p (shN q) b) (shN r) (fone p)) = shN a ∧ dgN r ≤ d := by
  have hp1 : 1 ≤ p := by have := hp.1; omega
  have hz0 : ∀ k, nthN (List.replicate (a.length - d) 0) k = 0 := fun k => by
    by_cases hk : k < a.length - d
    · simp [nthN, List.getD_eq_getElem?_getD, hk]
    · exact nthN_ge (by simp; omega)
  have key := dvN_spec hp hb hd hbz (fun n => (nthN a n : Int)) (a.length - d) a (List.replicate (a.length - d) 0) ha (by simp) (by omega) (fun k hk => nthN_ge (by omega)) (fun k _ => hz0 k) (fun n => by
    have : sumI (List.replicate (a.length - d) 0).length (cvI (List.replicate (a.length - d) 0) b n) = sumI (List.replicate (a.length - d) 0).length fun k => 0 * 0 :=
      sumI_ext _ fun k _ => by unfold cvI; rw [hz0 k]; split <;> simp
    rw [this, sumI_mul]; exact .of_eq (by omega))
  have hl := dvN_len p b d (invV p (nthN b d)) (a.length - d) a (List.replicate (a.length - d) 0)
  have hlt := dvN_lt hp1 b d (invV p (nthN b d)) (a.length - d) a (List.replicate (a.length - d) 0) ha (fun x hx => by rw [List.mem_replicate] at hx; omega)
  rw [h] at key hl hlt
  obtain ⟨key, hr0⟩ := key
  obtain ⟨hl1, hl2⟩ := hl
  simp only at key hr0 hl1 hl2
  rw [← hl2] at key
  refine ⟨shN_ext fun n => ?_, dgN_lt_of hr0⟩
  refine Cg.nat (p := p) ?_ (nthN_lt hp1 (linN_lt hp1) n) (nthN_lt hp1 ha n)
  have hcg : Cg p ((nthN (mulN p (shN q) b) n : Int) + (nthN r n : Int)) (nthN a n : Int) := ((mulN_short hp1 q b n).add (Cg.refl p _)).trans (key n)
  refine Cg.trans ?_ hcg
  by_cases hn : n < max (mulN p (shN q) b).length (shN r).length
  · rw [linN_nth hn, shN_nth]
    exact (cg_add p _ _).trans ((Cg.refl p _).add ((cg_mul p _ _).trans (((cg_one p).mul (Cg.refl p _)).trans (.of_eq (by simp)))))
  · have e1 : nthN (mulN p (shN q) b) n = 0 := nthN_ge (by omega)
    have e2 : nthN r n = 0 := by rw [← shN_nth]; exact nthN_ge (by omega)
    rw [nthN_ge (by rw [linN_len]; omega), e1, e2]; exact .of_eq (by simp)
end Go.Proofs.YtlhipgejiacklaaDoor
namespace Go.Proofs.YtlhipgejiacklaaDoor
open Go.RowKit Go.Shelf

attribute [local go_sem] Oper.semAt_some

/-- What has come when k rounds of a walk from the end are over: the places. -/
def dnF (n : Nat) : (k : Nat) → k ≤ n → List (Fin n)
  | 0, _ => []
  | k + 1, h => dnF n k (by omega) ++ [⟨n - 1 - k, by omega⟩]
theorem dnF_len (n : Nat) : ∀ (k : Nat) (h : k ≤ n), (dnF n k h).length = k
  | 0, _ => rfl
  | k + 1, h => by simp [dnF, dnF_len n k]
/-- A list that lies below n₀. -/
def NatsLow (n₀ : Nat) (W : World) (A : Option Addr) (L : List Nat) : Prop :=
  ∀ k, k < L.length → ∃ b off, A = some ⟨b, off, none⟩ ∧ b < n₀ ∧ W.cell? ⟨b, off + k, none⟩ = some (.int .i64 (nthN L k : Nat))
theorem NatsLow.below {n₀ : Nat} {W W' : World} {A : Option Addr} {L : List Nat} (h : NatsLow n₀ W A L) (hb : Below n₀ W W') : NatsLow n₀ W' A L := fun k hk => by
  obtain ⟨b, off, hA, hlt, hc⟩ := h k hk
  exact ⟨b, off, hA, hlt, (hb.cell hlt).trans hc⟩
theorem NatsAt.low {w : World} {A : Option Addr} {L : List Nat} (h : NatsAt w A L) : NatsLow w.heap.size w A L := h

/-- What a round keeps: what lay below n₀, and the slice's box. -/
structure KpB (n₀ Bs : Nat) (W W' : World) : Prop where
  low : Below n₀ W W'
  box : W'.heap[Bs]? = W.heap[Bs]?
theorem KpB.refl (n₀ Bs : Nat) (W : World) : KpB n₀ Bs W W := ⟨Below.refl _ _, rfl⟩
theorem KpB.trans {n₀ Bs : Nat} {A B C : World} (h : KpB n₀ Bs A B) (g : KpB n₀ Bs B C) : KpB n₀ Bs A C := ⟨h.low.trans g.low, g.box.trans h.box⟩
theorem KpB.turn {n₀ Bs : Nat} {w : World} (hn : n₀ ≤ w.heap.size) (hB : Bs < w.heap.size) (W : World) (l : Nat) (o o' : Obj) (hl : w.heap.size ≤ l) (ho : W.heap[l]? = some o) (h1 : o.isCells = false) (h2 : o.isWalk = false) : KpB n₀ Bs W (W.putObj l o') :=
  ⟨belowK_b hn W l o o' hl ho h1 h2, (grownBy_putObj' W l o').block Bs (by have := (Array.getElem?_eq_some_iff.1 ho).1; omega) (fun e => by injection e with e; omega)⟩
theorem KpB.cell {n₀ Bs : Nat} {W W' : World} (h : KpB n₀ Bs W W') : W'.cell? ⟨Bs, 0, none⟩ = W.cell? ⟨Bs, 0, none⟩ := World.cell?_of_block (w := W) h.box

set_option maxRecDepth 100000 in
set_option maxHeartbeats 2000000 in
theorem back1_in (F : Fence) (n : Nat) (h7 : F.fn 113) (hro : F.round = none) (hn : 1 ≤ n) (l Bs n₀ : Nat) (A : Option Addr) (L : List Nat) (cap : Nat) (hreach : L.length ≤ 1099511627776) (J Jx : List (Fin L.length) → World → Prop)
    (hY : ∀ pre x W, J pre W → pre.length < L.length → YieldAt F (n - 1) Tryd.prog l #[.int .i64 (x.1 : Int), .int .i64 (nthN L x.1 : Int)] W fun e W' =>
      (e = .returned (.bool true) ∧ J (pre ++ [x]) W' ∧ KpB n₀ Bs W W') ∨ (e = .returned (.bool false) ∧ Jx (pre ++ [x]) W'))
    (W : World) (hBs : W.cell? ⟨Bs, 0, none⟩ = some (.slice A L.length cap)) (hc : NatsLow n₀ W A L) (h0 : J [] W) :
    CallsIn F n Tryd.prog 113 #[.func (.yield l) #[] #[], .pointer (some ⟨Bs, 0, none⟩)] W fun e W' => (∃ v, e = .returned v) ∧
      ((∃ ys, ys = dnF L.length L.length (Nat.le_refl _) ∧ J ys W') ∨ (∃ pre, (∃ k h, pre = dnF L.length k h) ∧ Jx pre W')) := by
  refine callsIn_of_wp Tryd.func113 rfl h7 ?_ hro
  simp only [Tryd.ntmps113, List.size_toArray, List.length_cons, List.length_nil, Nat.reduceAdd, Nat.reduceSub, Array.replicate_succ, Array.replicate_zero, List.push_toArray, List.append_toArray, List.nil_append, List.cons_append]
  gi_wp2
  gi_loopw [3] (fun i wr => ∃ (k : Nat) (hk : k ≤ L.length), i = .int .i64 ((L.length : Int) - 1 - (k : Int)) ∧ J (dnF L.length k hk) wr ∧ KpB n₀ Bs W wr)
    (fun i _ => (intOf i + 1).toNat)
  case atStart => exact ⟨0, Nat.zero_le _, by simp, h0, KpB.refl _ _ _⟩
  case round =>
    obtain ⟨k, hk, rfl, hJs, hnx⟩ := hrel
    have hB' : wr.cell? ⟨Bs, 0, none⟩ = some (.slice A L.length cap) := hnx.cell.trans hBs
    by_cases hlt : k < L.length
    · obtain ⟨b, off, rfl, hb, hcell⟩ := (hc.below hnx.low) (L.length - 1 - k) (by omega)
      obtain ⟨m, hm⟩ : ∃ m, m = L.length - 1 - k := ⟨_, rfl⟩
      have hmi : (L.length : Int) - 1 - (k : Int) = (m : Int) := by omega
      have hml : m < L.length := by omega
      obtain ⟨fn, tmps, assign, body, hy, hR⟩ := hY _ ⟨m, hml⟩ wr hJs (by rw [dnF_len]; exact hlt)
      dsimp only at hy
      rw [hmi]
      rw [← hm] at hcell
      have HM := Lib.hid hm
      have HJ := Lib.hid hmi
      clear hm hmi
      gi_wp2
      refine hR.mono ?_
      rintro e W3 (⟨rfl, hJ3, hk3⟩ | ⟨rfl, hJx3⟩)
      · gi_wp2
        go_roundw
        case rel => exact ⟨k + 1, by omega, by have := HJ.out; congr 1; omega, by have hJ3' := hJ3; simp only [HM.out] at hJ3'; exact hJ3', hnx.trans hk3⟩
        case measure => (simp [intOf]; try omega)
      · gi_wp2
        refine bodyPost_ret (results_none rfl _ _ _) rfl ?_
        exact ⟨⟨_, rfl⟩, .inr ⟨dnF L.length (k + 1) (by omega), ⟨k + 1, by omega, rfl⟩, by have hJ3' := hJx3; simp only [HM.out] at hJ3'; exact hJ3'⟩⟩
    · obtain rfl : k = L.length := by omega
      have hmi : (L.length : Int) - 1 - (L.length : Int) = -1 := by omega
      rw [hmi]
      gi_wp2
      go_end0
      exact ⟨⟨_, rfl⟩, .inl ⟨_, rfl, hJs⟩⟩

theorem back_in (F : Fence) (n : Nat) (h6 : F.fn 112) (hro : F.round = none) (a : Option Addr) (len cap : Nat) (w : World) :
    CallsIn F n Tryd.prog 112 #[.slice a len cap] w fun e w' => e = .returned (.func (.func 113) #[] #[.pointer (some ⟨w.heap.size, 0, none⟩)]) ∧ w' = w.alloc (.cells #[.slice a len cap] 22) := by
  refine callsIn_of_wp Tryd.func112 rfl h6 ?_ hro
  simp only [Tryd.ntmps112, List.size_toArray, List.length_cons, List.length_nil, Nat.reduceAdd, Nat.reduceSub, Array.replicate_succ, Array.replicate_zero, List.push_toArray, List.append_toArray, List.nil_append, List.cons_append]
  gi_wp2
  go_ret
  exact ⟨rfl, rfl⟩
theorem back_stops (F : Fence) (n : Nat) (h8 : F.fn 113) (hro : F.round = none) (hn : 1 ≤ n) (Bs n₀ : Nat) (A : Option Addr) (L : List Nat) (cap : Nat) (hreach : L.length ≤ 1099511627776) (w : World) (hBs : Bs < w.heap.size) (hn₀ : n₀ ≤ w.heap.size)
    (hc : w.cell? ⟨Bs, 0, none⟩ = some (.slice A L.length cap)) (hI : NatsLow n₀ w A L) :
    SeqStopsK F n Tryd.prog 113 #[.pointer (some ⟨Bs, 0, none⟩)] (fun x : Fin L.length => #[Value.int .i64 (x.1 : Int), Value.int .i64 (nthN L x.1 : Int)]) (KpB n₀ Bs) (fun ys => ys = dnF L.length L.length (Nat.le_refl _))
      (fun pre => ∃ k h, pre = dnF L.length k h) L.length w := fun l J Jx W hW _ _ hY h0 => by
  have hc' := (hW.cell (p := ⟨Bs, 0, none⟩) hBs).trans hc
  exact back1_in F n h8 hro hn l Bs n₀ A L cap hreach J Jx hY W hc' (hI.below (hW.mono hn₀)) h0

/-- The value of the last k coefficients. -/
def evD (p : Nat) (L : List Nat) (x k : Nat) : Nat := evN p (L.drop (L.length - k)) x
theorem evD_zero (p : Nat) (L : List Nat) (x : Nat) : evD p L x 0 = 0 := by unfold evD; rw [Nat.sub_zero, List.drop_length]; rfl
theorem evD_succ (p : Nat) (L : List Nat) (x k : Nat) (h : k < L.length) : evD p L x (k + 1) = fadd p (fmul p (evD p L x k) x) (nthN L (L.length - 1 - k)) := by
  unfold evD
  rw [show L.length - (k + 1) = L.length - 1 - k by omega, List.drop_eq_getElem_cons (show L.length - 1 - k < L.length by omega), ← nthN_eq, show L.length - 1 - k + 1 = L.length - k by omega]
  rfl
theorem evD_all (p : Nat) (L : List Nat) (x : Nat) : evD p L x L.length = evN p L x := by unfold evD; rw [Nat.sub_self]; rfl
theorem evD_lt {p : Nat} (hp : 1 ≤ p) (L : List Nat) (x k : Nat) : evD p L x k < p := evN_lt hp _ _
/-- The value as the rounds make it. -/
def evP (p : Nat) (L : List Nat) (x : Nat) (pre : List (Fin L.length)) : Nat := pre.foldl (fun v i => fadd p (fmul p v x) (nthN L i.1)) 0
theorem evP_snoc (p : Nat) (L : List Nat) (x : Nat) (pre : List (Fin L.length)) (i : Fin L.length) : evP p L x (pre ++ [i]) = fadd p (fmul p (evP p L x pre) x) (nthN L i.1) := by simp [evP]
theorem evP_dn (p : Nat) (L : List Nat) (x : Nat) : ∀ (k : Nat) (h : k ≤ L.length), evP p L x (dnF L.length k h) = evD p L x k
  | 0, _ => (evD_zero p L x).symm
  | k + 1, h => by
    show evP p L x (dnF L.length k _ ++ [_]) = _
    rw [evP_snoc, evP_dn p L x k, evD_succ p L x k (by omega)]
theorem evP_all (p : Nat) (L : List Nat) (x : Nat) : evP p L x (dnF L.length L.length (Nat.le_refl _)) = evN p L x := by rw [evP_dn, evD_all]
theorem evP_lt {p : Nat} (hp : 1 ≤ p) (L : List Nat) (x : Nat) (pre : List (Fin L.length)) : evP p L x pre < p := by
  rcases List.eq_nil_or_concat pre with h | ⟨q, i, h⟩
  · subst h; exact hp
  · subst h; rw [List.concat_eq_append, evP_snoc]; exact fadd_lt hp _ _
end Go.Proofs.YtlhipgejiacklaaDoor
namespace Go.Proofs.YtlhipgejiacklaaDoor
open Go.RowKit Go.Shelf

attribute [local go_sem] Oper.semAt_some

def EvI (p x : Nat) (L : List Nat) (w : World) (pre : List (Fin L.length)) (W : World) : Prop :=
  W.cell? ⟨w.heap.size + 1 + 1, 0, none⟩ = some (.int .i64 (evP p L x pre : Nat)) ∧ W.frozen? ⟨w.heap.size + 1 + 1, 0, none⟩ = false ∧
    W.cell? ⟨w.heap.size, 0, none⟩ = some (.int .i64 (p : Int)) ∧ W.cell? ⟨w.heap.size + 1, 0, none⟩ = some (.int .i64 (x : Int))
theorem EvI.own (p x : Nat) (L : List Nat) (w : World) : Own (EvI p x L w) := fun s A B row hs hg hr => by
  obtain ⟨h1, h2, h3, h4⟩ := hs
  exact ⟨cell_kept h1 hg hr, (frozen_kept h1 hg hr).trans h2, cell_kept h3 hg hr, cell_kept h4 hg hr⟩

theorem EvI.round {p x v c : Nat} {L : List Nat} {w W : World} {pre : List (Fin L.length)} {y : Fin L.length} (B : Nat) (hc : W.cell? ⟨w.heap.size + 1 + 1, 0, none⟩ = some (.int .i64 (v : Int))) (hf : W.frozen? ⟨w.heap.size + 1 + 1, 0, none⟩ = false)
    (hcp : W.cell? ⟨w.heap.size, 0, none⟩ = some (.int .i64 (p : Int))) (hcx : W.cell? ⟨w.heap.size + 1, 0, none⟩ = some (.int .i64 (x : Int))) (hB : Below w.heap.size w W) (hs : evP p L x (pre ++ [y]) = fadd p (fmul p v x) c) :
    KeepsFrom B W (W.setCell ⟨w.heap.size + 1 + 1, 0, none⟩ (.int .i64 (fadd p (fmul p v x) c : Nat))).drew ∧ KpB w.heap.size (w.heap.size + 1 + 1 + 1) W (W.setCell ⟨w.heap.size + 1 + 1, 0, none⟩ (.int .i64 (fadd p (fmul p v x) c : Nat))).drew ∧
      EvI p x L w (pre ++ [y]) (W.setCell ⟨w.heap.size + 1 + 1, 0, none⟩ (.int .i64 (fadd p (fmul p v x) c : Nat))).drew ∧ Below w.heap.size w (W.setCell ⟨w.heap.size + 1 + 1, 0, none⟩ (.int .i64 (fadd p (fmul p v x) c : Nat))).drew := by
  refine ⟨((KeepsOthers.setCell _ _ _).trans (KeepsOthers.drew _)).from _, ⟨((Below.refl _ W).setCell (by show _ ≤ w.heap.size + 1 + 1; omega) _).drew, Below.heap_setCell W _ _ _ (by simp)⟩, ⟨?_, ?_, ?_, ?_⟩, (hB.setCell (by show _ ≤ w.heap.size + 1 + 1; omega) _).drew⟩
  · rw [hs]; exact World.cell?_setCell_same' _ _ _ (by rw [hc]; rfl)
  · rw [frozen_drew_own, World.frozen?_setCell]; exact hf
  · rw [cell_drew_own, World.cell?_setCell_other _ _ _ _ (fun e => by injection e with e1; omega)]; exact hcp
  · rw [cell_drew_own, World.cell?_setCell_other _ _ _ _ (fun e => by injection e with e1; omega)]; exact hcx

set_option maxRecDepth 100000 in
set_option maxHeartbeats 4000000 in
theorem eval_any (p x : Nat) (A : Option Addr) (L : List Nat) (cap : Nat) (w : World) (hp : 1 ≤ p) (hp2 : p ≤ 2147483648) (hx : x < p) (hL : ∀ c ∈ L, c < p) (hN : NatsAt w A L) (hreach : L.length ≤ 1073741824) :
    Calls Tryd.prog 104 #[.int .i64 p, .slice A L.length cap, .int .i64 x] w (RetB (.int .i64 (evN p L x : Nat)) w) := by
  have HL := Lib.hid hL
  have HN := Lib.hid hN
  clear hL hN
  refine (callsIn_wide (n := 3)).1 ?_
  refine callsIn_of_wp_marks Tryd.func104 rfl trivial ?_ rfl
  simp only [Tryd.ntmps104, List.size_toArray, List.length_cons, List.length_nil, Nat.reduceAdd, Nat.reduceSub, Array.replicate_succ, Array.replicate_zero, List.push_toArray, List.append_toArray, List.nil_append, List.cons_append]
  gi_wp2_with (refine ⟨trivial, ?_⟩; gi_at_call 112; refine (back_in Fence.wide _ trivial rfl _ _ _ _).mono ?_; rintro e w' ⟨rfl, rfl⟩)
  have hB0 : Below w.heap.size w ((((w.alloc (.cells #[.int .i64 (p : Int)] 3)).alloc (.cells #[.int .i64 (x : Int)] 3)).alloc (.cells #[.int .i64 0] 3)).alloc (.cells #[.slice A L.length cap] 22)) :=
    ((((Below.refl _ w).alloc (Nat.le_refl _) _).alloc (by simp) _).alloc (by simp; omega) _).alloc (by simp; omega) _
  have bP := (((Boxed.new w 3 (.int .i64 (p : Int))).alloc (.cells #[.int .i64 (x : Int)] 3)).alloc (.cells #[.int .i64 0] 3)).alloc (.cells #[.slice A L.length cap] 22)
  have bX := ((Boxed.new (w.alloc (.cells #[.int .i64 (p : Int)] 3)) 3 (.int .i64 (x : Int))).alloc (.cells #[.int .i64 0] 3)).alloc (.cells #[.slice A L.length cap] 22)
  have bV := (Boxed.new ((w.alloc (.cells #[.int .i64 (p : Int)] 3)).alloc (.cells #[.int .i64 (x : Int)] 3)) 3 (.int .i64 0)).alloc (.cells #[.slice A L.length cap] 22)
  have bS := Boxed.new (((w.alloc (.cells #[.int .i64 (p : Int)] 3)).alloc (.cells #[.int .i64 (x : Int)] 3)).alloc (.cells #[.int .i64 0] 3)) 22 (.slice A L.length cap)
  simp only [World.size_alloc] at bX bV bS
  refine wpIn_rangeFunc_ownG rfl (by omega) (gf := 113) (lb := #[.pointer (some ⟨w.heap.size + 1 + 1 + 1, 0, none⟩)]) rfl trivial (enters_of Tryd.func113 (by kernel_rfl) rfl)
    (back_stops Fence.wide _ trivial rfl (by omega) (w.heap.size + 1 + 1 + 1) w.heap.size A L cap (by omega) _ bS.lt (by simp; omega) bS.cell (HN.out.low.below hB0)) KpB.trans (KpB.turn (by simp; omega) bS.lt) (Below.refl _ _) (fun _ => rfl)
    (fun pre W => EvI p x L w pre W ∧ Below w.heap.size w W)
    (fun _ _ _ => False)
    (OwnFrom.and (Own.from (EvI.own p x L w) _) (ownFrom_below (Nat.le_refl _) (by simp; omega)))
    (fun _ _ _ _ _ hs _ _ => hs)
    ⟨⟨bV.cell, bV.frozen, bP.cell, bX.cell⟩, hB0⟩
    (fun y => { tmps := #[.int .i64 (p : Int), .slice A L.length cap, .int .i64 (x : Int), .pointer (some ⟨w.heap.size, 0, none⟩), undef, .pointer (some ⟨w.heap.size + 1, 0, none⟩), .int .i64 0, .pointer (some ⟨w.heap.size + 1 + 1, 0, none⟩), undef, .int .i64 (nthN L y.1 : Int), .slice A L.length cap, .func (.func 113) #[] #[.pointer (some ⟨w.heap.size + 1 + 1 + 1, 0, none⟩)], .int .i64 (y.1 : Int), .int .i64 (nthN L y.1 : Int), undef, undef, undef, undef, undef, undef, undef, undef], defers := [] }) ?assign ?body ?done ?stop
  case assign =>
    intro l y W K hK
    gi_wp2
    exact hK
  case body =>
    rintro l pre y W ⟨⟨hc, hf, hcp, hcx⟩, hB⟩ _
    have hvl := evP_lt hp L x pre
    have hyl := nthN_lt hp HL.out y.1
    have hsn := evP_snoc p L x pre y
    generalize evP p L x pre = v at *
    generalize nthN L y.1 = c at *
    have HD := Lib.hid (fun B => EvI.round (w := w) B hc hf hcp hcx hB hsn)
    have hml := fmul_lt hp v x
    clear hsn
    have hmx : Tryd.prog.follows .mixedOrders = true := by kernel_rfl
    gi_wp2
    gi_region_with_o (first
      | (refine ⟨trivial, ?_⟩; gi_at_call 98; refine (CallsIn.inRound l (callsIn_wide.2 (mul_nat p v x _ hp hp2 hvl hx))).mono ?_; rintro e w' ⟨rfl, rfl⟩)
      | (refine ⟨trivial, ?_⟩; gi_at_call 96; refine (CallsIn.inRound l (callsIn_wide.2 (add_nat p (fmul p v x) c _ hp hp2 hml hyl))).mono ?_; rintro e w' ⟨rfl, rfl⟩))
    all_goals
      gi_wp2
      exact ⟨(HD.out _).1, (HD.out 0).2.1, (HD.out 0).2.2.1, (HD.out 0).2.2.2⟩
  case done =>
    rintro D ys W hD rfl ⟨⟨hc, hf, _, _⟩, hB⟩ hK
    rw [evP_all] at hc
    gi_wp2
    refine ⟨by simp, .inl ⟨_, _, rfl, run_takeDeferred hK, ?_⟩⟩
    exact ⟨_, results_tmp rfl _ _ _, rfl, hB.trans (belowK_b (w := w) (Nat.le_refl _) W D _ _ (by simp at hD; omega) hK rfl rfl)⟩
  case stop =>
    rintro D c pre W _ _ h _
    exact h.elim
end Go.Proofs.YtlhipgejiacklaaDoor
namespace Go.Proofs.YtlhipgejiacklaaDoor
open Go.RowKit Go.Shelf

attribute [local go_sem] Oper.semAt_some

/-- The degree: -1 if there is none. -/
def dgI (L : List Nat) : Int := (dgN L : Int) - 1
theorem mem_dnF (n : Nat) : ∀ (k : Nat) (h : k ≤ n) (i : Fin n), i ∈ dnF n k h ↔ n - k ≤ i.1
  | 0, h, i => by simp [dnF]
  | k + 1, h, i => by
    rw [dnF, List.mem_append, mem_dnF n k (by omega) i, List.mem_singleton, Fin.ext_iff]
    show _ ∨ i.1 = n - 1 - k ↔ _
    have := i.2
    omega
/-- All that has come is 0. -/
def AllZ (L : List Nat) (pre : List (Fin L.length)) : Prop := ∀ y ∈ pre, nthN L y.1 = 0
/-- The last that came is not 0, all before it are. -/
def HitZ (L : List Nat) (pre : List (Fin L.length)) (i : Nat) : Prop := ∃ q y, pre = q ++ [y] ∧ AllZ L q ∧ nthN L y.1 ≠ 0 ∧ i = y.1
theorem AllZ.snoc {L : List Nat} {pre : List (Fin L.length)} {y : Fin L.length} (h : AllZ L pre) (hy : nthN L y.1 = 0) : AllZ L (pre ++ [y]) := fun z hz => by
  rcases List.mem_append.1 hz with hz | hz
  · exact h z hz
  · simp at hz; subst hz; exact hy
theorem AllZ.done {L : List Nat} (h : AllZ L (dnF L.length L.length (Nat.le_refl _))) : dgI L = -1 := by
  have : dgN L = 0 := dgN_eq (fun k _ => by
    by_cases hk : k < L.length
    · exact h ⟨k, hk⟩ ((mem_dnF _ _ _ _).2 (by simp))
    · exact nthN_ge (by omega)) (fun h => absurd h (by omega))
  unfold dgI; omega
theorem HitZ.stop {L : List Nat} {pre : List (Fin L.length)} {i : Nat} (h : HitZ L pre i) (hd : ∃ k h, pre = dnF L.length k h) : dgI L = (i : Int) := by
  obtain ⟨q, y, hp, hq, hy, rfl⟩ := h
  obtain ⟨k, hk, hd⟩ := hd
  rw [hp] at hd
  rcases k with _ | k
  · simp [dnF] at hd
  · rw [dnF] at hd
    obtain ⟨h1, h2⟩ := List.append_inj' hd rfl
    simp at h2
    have hv : y.1 = L.length - 1 - k := by rw [h2]
    have : dgN L = y.1 + 1 := dgN_eq (fun j hj => by
      by_cases hjl : j < L.length
      · exact hq ⟨j, hjl⟩ (by rw [h1, mem_dnF]; show _ ≤ j; omega)
      · exact nthN_ge (by omega)) (fun _ => hy)
    unfold dgI; omega

end Go.Proofs.YtlhipgejiacklaaDoor
namespace Go.Proofs.YtlhipgejiacklaaDoor
open Go.RowKit

/-- What a slice of numbers that a call made looks like. -/
structure SlOK (A : Option Addr) (c : Nat) (L : List Nat) : Prop where
  len : L.length ≤ c
  cap : c ≤ maxLen
  nil : A = none → c = 0
  spot : ∀ a, A = some a → a.spot = none
theorem own_sl {w : World} {base : Nat} {v : Value} {L : List Nat} {n : Nat} (h : w.ownsRow base 3 1 v n (valsN L)) (hn : n = L.length) :
    ∃ A c, v = .slice A L.length c ∧ NatsAt w A L ∧ SlOK A c L ∧ ∀ b off, A = some ⟨b, off, none⟩ → base ≤ b ∧ b < w.heap.size := by
  obtain ⟨A, c, hv, hN, -⟩ := NatsAt.of_own h hn
  subst hn
  have hlt := h.lt
  refine ⟨A, c, hv, hN, ?_, ?_⟩
  · rcases h.2 with ⟨h1, h0⟩ | ⟨g, cap, cur, h1, hg, hh, hnc, hcm, hcs, htk⟩
    · rw [hv] at h1; injection h1 with h2 h3 h4; subst h2; subst h4
      exact ⟨by omega, Nat.zero_le _, fun _ => rfl, fun a e => by cases e⟩
    · rw [hv] at h1; injection h1 with h2 h3 h4; subst h2; subst h4
      exact ⟨hnc, hcm, (fun e => by cases e), fun a e => by injection e with e; subst e; rfl⟩
  · intro b off e
    rcases h.2 with ⟨h1, h0⟩ | ⟨g, cap, cur, h1, hg, hh, hnc, hcm, hcs, htk⟩
    · rw [hv] at h1; injection h1 with h2; subst h2; cases e
    · rw [hv] at h1; injection h1 with h2; subst h2; injection e with e; injection e with e1; subst e1
      exact hlt g (by rw [hv]; rfl)
theorem SlOK.own {w : World} {g : Nat} {L : List Nat} (_ : NatBlk w g L) (hl : L.length ≤ maxLen) : SlOK (some ⟨g, 0, none⟩) L.length L :=
  ⟨Nat.le_refl _, hl, (fun e => by cases e), fun a e => by injection e with e; subst e; rfl⟩
theorem SlOK.none0 : SlOK none 0 [] := ⟨Nat.le_refl _, Nat.zero_le _, fun _ => rfl, fun a e => by cases e⟩
theorem SlOK.empty {A : Option Addr} {c : Nat} {L : List Nat} (h : SlOK A c L) (hA : A = none) : L = [] ∧ c = 0 := by
  have h1 := h.nil hA
  have h2 := h.len
  exact ⟨List.eq_nil_of_length_eq_zero (by omega), h1⟩
theorem NatsAt.news {w : World} {a : Addr} {L : List Nat} (h : NatsAt w (some a) L) (hs : a.spot = none) : ∀ j u, (valsN L)[j]? = some u → w.cell? (a.add j) = some u := fun j u hu => by
  obtain ⟨b, off, spot⟩ := a
  have hs : spot = none := hs
  subst hs
  have hj : j < L.length := by
    rcases Nat.lt_or_ge j (valsN L).length with h1 | h1
    · simpa [valsN] using h1
    · rw [List.getElem?_eq_none h1] at hu; cases hu
  obtain ⟨b', off', e, _, c1⟩ := h j hj
  injection e with e
  injection e with e1 e2
  subst e1; subst e2
  have e : (⟨b, off, none⟩ : Addr).add j = ⟨b, off + j, none⟩ := by
    unfold Addr.add; split
    · rename_i h; subst h; rfl
    · rfl
  rw [e, c1, ← hu, List.getElem?_map, nthN_eq hj, List.getElem?_eq_getElem hj]; rfl
theorem valsN_one (L : List Nat) : ∀ u ∈ valsN L, u.oneCell' = true := by
  intro u hu
  obtain ⟨n, _, rfl⟩ := List.mem_map.1 hu
  rfl
/-- append of a slice of numbers onto one of the call's own. -/
theorem app_nats {ops : Array Oper} {rest : List Oper} {o : Oper} {a : Act} {Q : Exit → Act → World → Prop} (hgd : o.guard = none) (s x : Operand)
    (ho : o.op = .call { callee := .builtin .append, args := #[s, x], argTypes := #[22, 22] })
    {base : Nat} {w : World} {v : Value} {S T : List Nat} {ad : Addr} {c : Nat} (hs : a.eval s = v) (hown : w.ownsRow base 3 1 v S.length (valsN S))
    (hx : a.eval x = .slice (some ad) T.length c) (hT : ∀ j u, (valsN T)[j]? = some u → w.cell? (ad.add j) = some u) (hl : S.length + T.length ≤ 4294967296) (hbase : base ≤ w.heap.size)
    (h : ∀ v' w', w'.ownsRow base 3 1 v' (S ++ T).length (valsN (S ++ T)) → w.grownBy w' v.ownBlock → Below base w w' → wpList Tryd.prog ops Q rest (a.put o.dst v') w') :
    wpList Tryd.prog ops Q (o :: rest) a w := by
  obtain ⟨i0, hi, hz0, hz1, hz2⟩ := info_parts info_int
  refine wpList_append_own w hgd s x 22 ho base 3 i0 _ 1 8 Tryd.underlying22 hi hz0 hz1 hz2 rfl (by omega) v S.length (valsN S) hs hown _ T.length c (valsN T) hx (by simp [valsN]) hT (valsN_one T) (by unfold maxLen; omega) (by omega) hbase ?_
  intro v' w' h2 h3 _
  refine h v' w' ?_ h3 ((Below.refl _ _).grown h3 hbase (fun k hk => (hown.lt k hk).1))
  rw [List.length_append]; simpa [valsN] using h2
theorem own_empty (w : World) : (w.alloc (.cells #[] 3)).ownsRow w.heap.size 3 1 (.slice (some ⟨w.heap.size, 0, none⟩) 0 0) ([] : List Nat).length (valsN []) :=
  ⟨rfl, .inr ⟨w.heap.size, 0, #[], rfl, Nat.le_refl _, heap_alloc_new w _, Nat.le_refl _, Nat.zero_le _, rfl, rfl⟩⟩
theorem below_of_alloc {B : Nat} {w w' : World} {o : Obj} (h : Below B (w.alloc o) w') (hB : B ≤ w.heap.size) : Below B w w' := ((Below.refl _ _).alloc hB o).trans h
theorem NatsAt.alloc {w : World} {A : Option Addr} {L : List Nat} (h : NatsAt w A L) (o : Obj) : NatsAt (w.alloc o) A L := h.below (below_alloc w o)
/-- What a list's contract gives. -/
theorem NewList.open_ {L : List Nat} {w w' : World} {e : Ending} (h : NewList L w e w') :
    ∃ A c, e = .returned (.slice A L.length c) ∧ NatsAt w' A L ∧ SlOK A c L ∧ (∀ b off, A = some ⟨b, off, none⟩ → w.heap.size ≤ b ∧ b < w'.heap.size) ∧ Below w.heap.size w w' := by
  obtain ⟨v, rfl, hown, hb⟩ := h
  obtain ⟨A, c, rfl, h1, h2, h3⟩ := own_sl hown rfl
  exact ⟨A, c, rfl, h1, h2, h3, hb⟩
theorem NewNats.list {L : List Nat} {w w' : World} {e : Ending} (h : NewNats L w e w') (hl : L.length ≤ maxLen) : NewList L w e w' := by
  obtain ⟨g, rfl, hg, hB, hb⟩ := h
  exact ⟨_, rfl, hB.own hg hl, hb⟩

set_option maxRecDepth 100000 in
set_option maxHeartbeats 400000 in
theorem clone_any (A : Option Addr) (L : List Nat) (c : Nat) (w : World) (hN : NatsAt w A L) (hS : SlOK A c L) (hl : L.length ≤ 1073741824) :
    Calls Tryd.prog 91 #[.slice A L.length c] w (NewList L w) := by
  rcases A with _ | a
  · obtain ⟨rfl, rfl⟩ := hS.empty rfl
    clear hN hS
    have he : ∀ w : World, (binOp .eql 22 (.slice none 0 0) (.slice none 0 0)).run Tryd.prog w = .ok (.bool true) w := fun _ => rfl
    go_enter Tryd.func91, Tryd.ntmps91
    go_wp2
    go_ret
    exact ⟨_, rfl, World.ownsRow_nil _ _ _ _, Below.refl _ _⟩
  · have HA := Lib.hid (hS.spot a rfl)
    have HN := Lib.hid hN
    clear hN hS
    have he : ∀ w : World, (binOp .eql 22 (.slice (some a) L.length c) (.slice none 0 0)).run Tryd.prog w = .ok (.bool false) w := fun _ => rfl
    go_enter Tryd.func91, Tryd.ntmps91
    go_wp2_with (first | (at_builtin; refine app_nats rfl (.tmp 5) (.tmp 6) rfl (base := w.heap.size) (S := []) (T := L) (v := .slice (some ⟨w.heap.size, 0, none⟩) 0 0) rfl (own_empty w) rfl ((HN.out.alloc _).news HA.out) (by simp; omega) (by simp) ?_; intro v w1 hown hg hb; clear hg he HN) | fail)
    go_ret
    exact ⟨_, rfl, hown, below_of_alloc hb (Nat.le_refl _)⟩

theorem dgI_succ (L : List Nat) : dgI L + 1 = (dgN L : Int) := by unfold dgI; omega
theorem dgI_ge (L : List Nat) : -1 ≤ dgI L ∧ dgI L < L.length := by have := dgN_le L; unfold dgI; omega
theorem NatsAt.take {w : World} {A : Option Addr} {L : List Nat} (h : NatsAt w A L) (k : Nat) : NatsAt w A (L.take k) := fun j hj => by
  have hj' : j < L.length := Nat.lt_of_lt_of_le hj (List.length_take_le' _ _)
  obtain ⟨b, off, hA, hb, hc⟩ := h j hj'
  refine ⟨b, off, hA, hb, ?_⟩
  rw [hc, nthN_eq hj', nthN_eq hj]; simp
theorem SlOK.take {A : Option Addr} {c : Nat} {L : List Nat} (h : SlOK A c L) (k : Nat) : SlOK A c (L.take k) :=
  ⟨Nat.le_trans (List.length_take_le' _ _) h.len, h.cap, h.nil, h.spot⟩

end Go.Proofs.YtlhipgejiacklaaDoor
namespace Go.Proofs.YtlhipgejiacklaaDoor
open Go.RowKit

theorem ev_ref (p v x c : Nat) : (v * x + c) % p = fadd p (fmul p v x) c := by unfold fadd fmul; rw [Nat.mod_add_mod]
theorem evN_drop {p : Nat} {L : List Nat} {x m : Nat} (h : m < L.length) : evN p (L.drop m) x = fadd p (fmul p (evN p (L.drop (m + 1)) x) x) (nthN L m) := by
  rw [List.drop_eq_getElem_cons h, ← nthN_eq h]; rfl
set_option maxRecDepth 100000 in
set_option maxHeartbeats 400000 in
theorem refEval_any (p x : Nat) (A : Option Addr) (L : List Nat) (cap : Nat) (w : World) (hp : 1 ≤ p) (hp2 : p ≤ 2147483648) (hx : x < p) (hL : ∀ c ∈ L, c < p) (hN : NatsAt w A L) (hl : L.length ≤ 1073741824) :
    Calls Tryd.prog 69 #[.int .i64 p, .slice A L.length cap, .int .i64 x] w (Ret (.int .i64 (evN p L x : Nat)) w) := by
  have HN := Lib.hid hN
  have HL := Lib.hid hL
  have t2 : ((p : Int) == 0) = false := by simp; omega
  have t3 : ¬ (p : Int) = 0 := by omega
  clear hN hL
  go_enter Tryd.func69, Tryd.ntmps69
  go_wp2
  go_loop [7, 8] (fun o i => ∃ (m v : Nat), m ≤ L.length ∧ i = .int .i64 ((m : Int) - 1) ∧ o = .int .i64 v ∧ v < p ∧ v = evN p (L.drop m) x) (fun _ i => (intOf i + 1).toNat)
  case atStart => exact ⟨L.length, 0, Nat.le_refl _, rfl, rfl, by omega, by rw [List.drop_length]; rfl⟩
  case round =>
    obtain ⟨m, v, hm, rfl, rfl, hv, hve⟩ := hrel
    have HV := Lib.hid hve
    clear hve
    rcases m with _ | m
    · rw [show (((0 : Nat) : Int) - 1) = -1 from rfl]
      go_wp2
      go_ret
      exact Ret.int (by rw [HV.out]; rfl)
    · rw [show (((m + 1 : Nat) : Int) - 1) = (m : Int) by omega]
      obtain ⟨b, off, rfl, _, hcell⟩ := HN.out m (by omega)
      have hc := nthN_lt hp HL.out m
      have hm1 := mulN_bound hv hx hp2
      have q1 : (v : Int) * (x : Int) = (v * x : Nat) := by push_cast; rfl
      have w1 : IntKind.i64.wrap ((v : Int) * (x : Int)) = (v : Int) * (x : Int) := IntWalk.i64_in _ (by omega)
      have w2 : IntKind.i64.wrap ((v : Int) * (x : Int) + (nthN L m : Int)) = (v : Int) * (x : Int) + (nthN L m : Int) := IntWalk.i64_in _ (by omega)
      have r1 : ((v : Int) * (x : Int) + (nthN L m : Int)).tmod p = (fadd p (fmul p v x) (nthN L m) : Nat) := by
        rw [q1, ← Int.natCast_add, Int.tmod_eq_emod_of_nonneg (by omega), ← Int.natCast_emod, ev_ref]
      have hl2 := fadd_lt hp (fmul p v x) (nthN L m)
      have HE := Lib.hid (evN_drop (p := p) (x := x) (show m < L.length by omega))
      clear q1 hm1
      go_wp2
      go_round
      case rel => exact ⟨m, fadd p (fmul p v x) (nthN L m), by omega, rfl, rfl, hl2, by rw [HE.out, ← HV.out]⟩
      case measure => simp [intOf]

end Go.Proofs.YtlhipgejiacklaaDoor
namespace Go.Proofs.YtlhipgejiacklaaDoor
open Go.RowKit

/-- The product's coefficients while row i is being added. -/
def MidC (p : Nat) (a b : List Nat) (i k : Nat) (cs : List Nat) : Prop := ∀ m, m < a.length + b.length - 1 → nthN cs m = cfN p a b m (if m < i + k then i + 1 else i)
def RowC (p : Nat) (a b : List Nat) (i : Nat) (cs : List Nat) : Prop := ∀ m, m < a.length + b.length - 1 → nthN cs m = cfN p a b m i
theorem cfN_low {p : Nat} {a b : List Nat} {m i : Nat} (h : m < i) : cfN p a b m (i + 1) = cfN p a b m i := by simp only [cfN]; rw [if_neg (by omega)]
theorem cfN_high {p : Nat} (hp : 1 ≤ p) {a b : List Nat} {m i : Nat} (h : i + b.length ≤ m) : cfN p a b m (i + 1) = cfN p a b m i := by
  simp only [cfN]; split
  · rw [nthN_ge (L := b) (by omega)]
    have := cfN_lt hp a b m i
    unfold fadd fmul; rw [Nat.mul_zero, Nat.zero_mod, Nat.add_zero, Nat.mod_eq_of_lt this]
  · rfl
theorem cfN_mid {p : Nat} {a b : List Nat} {i k : Nat} : cfN p a b (i + k) (i + 1) = fadd p (cfN p a b (i + k) i) (fmul p (nthN a i) (nthN b k)) := by
  simp only [cfN]; rw [if_pos (by omega), Nat.add_sub_cancel_left]
theorem MidC.start {p : Nat} {a b : List Nat} {i : Nat} {cs : List Nat} (h : RowC p a b i cs) : MidC p a b i 0 cs := fun m hm => by
  rw [h m hm]; split
  · rw [cfN_low (by omega)]
  · rfl
theorem MidC.done {p : Nat} (hp : 1 ≤ p) {a b : List Nat} {i : Nat} {cs : List Nat} (h : MidC p a b i b.length cs) : RowC p a b (i + 1) cs := fun m hm => by
  rw [h m hm]; split
  · rfl
  · rw [cfN_high hp (by omega)]
theorem MidC.at_ {p : Nat} {a b : List Nat} {i k : Nat} {cs : List Nat} (h : MidC p a b i k cs) (hik : i + k < a.length + b.length - 1) : nthN cs (i + k) = cfN p a b (i + k) i := by
  rw [h _ hik, if_neg (by omega)]
theorem MidC.step {p : Nat} {a b : List Nat} {i k : Nat} {cs : List Nat} (h : MidC p a b i k cs) (hl : cs.length = a.length + b.length - 1) (hik : i + k < a.length + b.length - 1) :
    MidC p a b i (k + 1) (cs.set (i + k) (fadd p (nthN cs (i + k)) (fmul p (nthN a i) (nthN b k)))) := fun m hm => by
  by_cases hmk : i + k = m
  · subst hmk
    rw [nthN_set_same _ _ _ (by rw [hl]; exact hm), h.at_ hik, if_pos (by omega), cfN_mid]
  · rw [nthN_set_other _ _ _ _ hmk, h m hm]
    by_cases hm2 : m < i + k
    · rw [if_pos hm2, if_pos (by omega)]
    · rw [if_neg hm2, if_neg (by omega)]
theorem RowC.zero (p : Nat) (a b : List Nat) : RowC p a b 0 (List.replicate (a.length + b.length - 1) 0) := fun m _ => by
  rw [show cfN p a b m 0 = 0 from rfl]; simp only [nthN, List.getD_eq_getElem?_getD, List.getElem?_replicate]; split <;> rfl
theorem RowC.all {p : Nat} (hp : 1 ≤ p) {a b : List Nat} {cs : List Nat} (h : RowC p a b a.length cs) (hl : cs.length = a.length + b.length - 1) : cs = rowsN p a b :=
  extN (by rw [hl, rowsN_len]) fun m hm => by rw [h m (by rw [← hl]; exact hm), rowsN_nth p a b m hp]
theorem mulN_nil {p : Nat} {a b : List Nat} (h : a.length = 0 ∨ b.length = 0) : mulN p a b = [] := if_pos h
theorem mulN_sh {p : Nat} {a b : List Nat} (h : ¬ (a.length = 0 ∨ b.length = 0)) : mulN p a b = shN (rowsN p a b) := if_neg h
theorem RowC.lt {p : Nat} (hp : 1 ≤ p) {a b : List Nat} {i k : Nat} {cs : List Nat} (h : MidC p a b i k cs) (m : Nat) (hm : m < a.length + b.length - 1) : nthN cs m < p := by
  rw [h m hm]; exact cfN_lt hp _ _ _ _

end Go.Proofs.YtlhipgejiacklaaDoor
namespace Go.Proofs.YtlhipgejiacklaaDoor
open Go.RowKit

theorem mul_ref {p v x y : Nat} : (v + x * y) % p = fadd p v (fmul p x y) := by unfold fadd fmul; rw [Nat.add_mod_mod]
/-! ### Different places -/
open Go.Maps

theorem lawI : Keyed Tryd.prog 3 := int_keyed Tryd.underlying3
theorem wf_i64 {n : Int} (h1 : -9223372036854775808 ≤ n) (h2 : n ≤ 9223372036854775807) : (Lit.int .i64 n).wf = true := by
  rw [← IntWalk.wrap64_in n ⟨h1, h2⟩]; exact wrap64_wf n
def keyL (n : Nat) : Lit := .int .i64 (n : Int)
def Sn {H : Type} (L : List Nat) (k : Nat) : DataW H := setOf (.lit (.bool true)) ((L.take k).map keyL)
theorem Sn_zero {H : Type} (L : List Nat) : Sn (H := H) L 0 = .map [] := by simp [Sn, setOf]
theorem Sn_succ {H : Type} (L : List Nat) (k : Nat) (hk : k < L.length) : Sn (H := H) L (k + 1) = (Sn L k).put (keyL (nthN L k)) (.lit (.bool true)) := by
  unfold Sn
  rw [List.take_succ_eq_append_getElem hk, List.map_append, List.map_singleton, setOf_snoc, nthN_eq hk]
theorem keyL_key (n : Nat) : WideAt.IsKeyLit (keyL n) := trivial
theorem sameKey_keyL (a b : Nat) : (keyL a).sameKey (keyL b) = decide (a = b) := by
  by_cases h : a = b
  · subst h; rw [WideAt.sameKey_self (keyL_key a)]; simp
  · rw [sameKey_ne (fun e => h (by unfold keyL at e; injection e with _ e; omega))]; simp [h]
def addN (acc : List Nat) (x : Nat) : List Nat := if x ∈ acc then acc else acc ++ [x]
theorem addKey_map (acc : List Nat) (x : Nat) : addKey (acc.map keyL) (keyL x) = (addN acc x).map keyL := by
  have h : (acc.map keyL).any (fun y => y.sameKey (keyL x)) = decide (x ∈ acc) := by
    rw [Bool.eq_iff_iff]
    simp only [List.any_map, List.any_eq_true, Function.comp, sameKey_keyL, decide_eq_true_eq]
    exact ⟨fun ⟨y, hy, e⟩ => e ▸ hy, fun h => ⟨x, h, rfl⟩⟩
  unfold addKey addN
  rw [h]
  by_cases hx : x ∈ acc <;> simp [hx]
theorem foldAdd_map : ∀ (L acc : List Nat), (L.map keyL).foldl addKey (acc.map keyL) = (L.foldl addN acc).map keyL
  | [], _ => rfl
  | x :: L, acc => by rw [List.map_cons, List.foldl_cons, List.foldl_cons, addKey_map, foldAdd_map L]
theorem addN_len : ∀ (L acc : List Nat), acc.Nodup → (L.foldl addN acc).length ≤ acc.length + L.length ∧ ((L.foldl addN acc).length = acc.length + L.length ↔ (acc ++ L).Nodup)
  | [], acc, h => by simp [h]
  | x :: L, acc, h => by
    rw [List.foldl_cons]
    by_cases hx : x ∈ acc
    · have e : addN acc x = acc := if_pos hx
      rw [e]
      obtain ⟨h1, _⟩ := addN_len L acc h
      refine ⟨by simp; omega, ⟨fun h2 => by simp at h2; omega, fun h2 => ?_⟩⟩
      have := (List.nodup_append.1 h2).2.2 x hx x (List.mem_cons_self ..)
      exact absurd rfl this
    · have e : addN acc x = acc ++ [x] := if_neg hx
      rw [e]
      have hn : (acc ++ [x]).Nodup := List.nodup_append.2 ⟨h, by simp, fun a ha b hb => by simp at hb; subst hb; exact fun e => hx (e ▸ ha)⟩
      obtain ⟨h1, h2⟩ := addN_len L (acc ++ [x]) hn
      refine ⟨by simp at h1 ⊢; omega, ?_⟩
      rw [List.append_assoc] at h2
      simp only [List.singleton_append] at h2
      rw [← h2]; simp; omega
def difB (L : List Nat) : Bool := decide L.Nodup
theorem Sn_size (L : List Nat) : ((Maps.size (Sn (H := Unit) L L.length) : Nat) : Int) == (L.length : Int) ↔ L.Nodup := by
  have h := addN_len L [] List.nodup_nil
  have e : Maps.size (Sn (H := Unit) L L.length) = (L.foldl addN []).length := by
    unfold Sn
    rw [List.take_length, size_setOf _ _ (fun x hx => by obtain ⟨n, _, rfl⟩ := List.mem_map.1 hx; exact keyL_key n)]
    have := foldAdd_map L []
    rw [List.map_nil] at this
    rw [this, List.length_map]
  rw [e]
  simp only [List.nil_append, List.length_nil, Nat.zero_add] at h
  rw [← h.2]
  simp only [beq_iff_eq]; omega
theorem Sn_dif (L : List Nat) : (((Maps.size (Sn (H := Unit) L L.length) : Nat) : Int) == (L.length : Int)) = difB L := by
  unfold difB; rw [Bool.eq_iff_iff, Sn_size]; simp
set_option maxRecDepth 100000 in
set_option maxHeartbeats 400000 in
theorem different_any (A : Option Addr) (L : List Nat) (cap : Nat) (w : World) (hN : NatsAt w A L) (hl : L.length ≤ 1073741824) (hL : ∀ x ∈ L, x ≤ 4294967296) :
    Calls Tryd.prog 105 #[.slice A L.length cap] w (RetB (.bool (difB L)) w) := by
  have HN := Lib.hid hN
  have HL := Lib.hid hL
  clear hN hL
  have hmm := @run_makeMap Tryd.prog
  go_enter Tryd.func105, Tryd.ntmps105
  go_wp2
  go_loopw [9] (fun i wr => ∃ k : Nat, k ≤ L.length ∧ i = .int .i64 k ∧ wr.ownsMap Tryd.prog 3 (plainElem Tryd.prog 4) w.heap.size k (Sn (H := Unit) L k) ∧ Below w.heap.size w wr)
    (fun i _ => L.length - (intOf i).toNat)
  case atStart => exact ⟨0, Nat.zero_le _, rfl, by rw [Sn_zero]; exact World.ownsMap_made _ _ _ _, (Below.refl _ _).alloc (Nat.le_refl _) _⟩
  case round =>
    obtain ⟨k, hk, rfl, hown, hnx⟩ := hrel
    by_cases hlt : k < L.length
    · obtain ⟨b, off, rfl, hb, hcell⟩ := (HN.out.below hnx) k hlt
      have hkey : keyOf Tryd.prog 3 (.int .i64 (nthN L k : Nat)) = some (keyL (nthN L k)) := Maps.keyOf_int_mk Tryd.underlying3 (wf_i64 (by omega) (by have := HL.out _ (nthN_mem hlt); omega))
      have HSN := Lib.hid (Sn_succ (H := Unit) L k hlt)
      go_wp2_with (first
        | (at_mapUpdate; refine wpList_mapUpdate_own _ rfl _ _ _ 89 rfl 3 4 lawI Tryd.underlying89 (plainElem (H := Unit) Tryd.prog 4) w.heap.size k _ rfl hown (by unfold maxLen; omega) _ _ _ rfl rfl hkey _ [] (plainElem_bool Tryd.underlying4 true) ?_; intro w1 hown1 hgrow1)
        | go_in)
      go_roundw
      case rel => exact ⟨k + 1, by omega, by go_num, by rw [HSN.out]; exact hown1, hnx.grown hgrow1 hnx.size (fun j hj => by cases hj; exact Nat.le_refl _)⟩
      case measure => simp [intOf]; omega
    · obtain rfl : k = L.length := by omega
      have HD := Lib.hid (Sn_dif L)
      go_wp2_with (first
        | (at_len; refine wpList_len_own _ rfl _ 89 rfl 3 4 Tryd.underlying89 _ w.heap.size L.length _ rfl hown ?_)
        | go_in)
      go_ret
      exact RetB.bool HD.out hnx

/-! ### check, places -/
def plE (L : List Nat) : Int := if L.Nodup then 0 else 6
def ckE (L : List Nat) : Int := if L.length = 0 then 1 else plE L
theorem plE_yes {L : List Nat} (h : L.Nodup) : plE L = 0 := if_pos h
theorem plE_no {L : List Nat} (h : ¬ L.Nodup) : plE L = 6 := if_neg h
theorem ckE_zero {L : List Nat} (h : L.length = 0) : ckE L = 1 := if_pos h
theorem ckE_pos {L : List Nat} (h : ¬ L.length = 0) : ckE L = plE L := if_neg h
set_option maxRecDepth 100000 in
set_option maxHeartbeats 400000 in
theorem check_any (A : Option Addr) (L : List Nat) (cap : Nat) (w : World) (hN : NatsAt w A L) (hl : L.length ≤ 1073741824) (hL : ∀ x ∈ L, x ≤ 4294967296) :
    Calls Tryd.prog 94 #[.slice A L.length cap] w (RetB (.int .i64 (ckE L)) w) := by
  by_cases h0 : L.length = 0
  · have HE := Lib.hid (ckE_zero h0)
    have t1 : ((L.length : Int) == 0) = true := by simp [h0]
    clear h0 hN hL
    go_enter Tryd.func94, Tryd.ntmps94
    go_wp2_with fail
    go_ret
    exact RetB.int (by rw [HE.out]) (Below.refl _ _)
  · have t1 : ((L.length : Int) == 0) = false := by simp; exact fun e => h0 (by rw [e]; rfl)
    have hd := different_any A L cap w hN hl hL
    by_cases hn : L.Nodup
    · have HE := Lib.hid ((ckE_pos h0).trans (plE_yes hn))
      rw [show difB L = true from decide_eq_true hn] at hd
      have HD := Lib.hid hd
      clear h0 hN hL hn hd
      go_enter Tryd.func94, Tryd.ntmps94
      go_wp2_with fail
      refine ret_below HD.out ?_
      intro w1 hb1
      go_wp2_with fail
      go_ret
      exact RetB.int (by rw [HE.out]) hb1
    · have HE := Lib.hid ((ckE_pos h0).trans (plE_no hn))
      rw [show difB L = false from decide_eq_false hn] at hd
      have HD := Lib.hid hd
      clear h0 hN hL hn hd
      go_enter Tryd.func94, Tryd.ntmps94
      go_wp2_with fail
      refine ret_below HD.out ?_
      intro w1 hb1
      go_wp2_with fail
      go_ret
      exact RetB.int (by rw [HE.out]) hb1

theorem nodup_snoc {L : List Nat} {i : Nat} (hi : i < L.length) (h : (L.take i).Nodup) (hne : ∀ j, j < i → nthN L i ≠ nthN L j) : (L.take (i + 1)).Nodup := by
  rw [List.take_succ_eq_append_getElem hi]
  refine List.nodup_append.2 ⟨h, by simp, fun a ha b hb => ?_⟩
  simp at hb; subst hb
  obtain ⟨j, hj, rfl⟩ := List.getElem_of_mem ha
  rw [List.length_take] at hj
  obtain ⟨hj1, hj2⟩ := Nat.lt_min.1 hj
  intro e
  refine hne j hj1 ?_
  rw [nthN_eq hi, nthN_eq hj2, ← e]; simp
theorem not_nodup {L : List Nat} {i j : Nat} (hi : i < L.length) (hj : j < i) (h : nthN L i = nthN L j) : ¬ L.Nodup := fun hn => by
  rw [nthN_eq hi, nthN_eq (by omega)] at h
  exact List.pairwise_iff_getElem.1 hn j i (by omega) hi hj h.symm
set_option maxRecDepth 100000 in
set_option maxHeartbeats 400000 in
theorem places_any (A : Option Addr) (L : List Nat) (cap : Nat) (w : World) (hN : NatsAt w A L) (hS : SlOK A cap L) :
    Calls Tryd.prog 99 #[.slice A L.length cap] w (Ret (.int .i64 (plE L)) w) := by
  have hcl := hS.len
  have hcm := hS.cap
  unfold maxLen at hcm
  have HN := Lib.hid hN
  clear hN hS
  go_enter Tryd.func99, Tryd.ntmps99
  go_wp2
  go_loop [9] (fun i => ∃ k : Nat, k ≤ L.length ∧ i = .int .i64 k ∧ (L.take k).Nodup) (fun i => L.length - (intOf i).toNat)
  case atStart => exact ⟨0, Nat.zero_le _, rfl, by simp⟩
  case round =>
    obtain ⟨i, hi, rfl, hnd⟩ := hrel
    have HND := Lib.hid hnd
    clear hnd
    by_cases hlt : i < L.length
    · obtain ⟨b, off, rfl, _, hcell⟩ := HN.out i hlt
      go_wp2
      go_loop [18] (fun j => ∃ k : Nat, k ≤ i ∧ j = .int .i64 k ∧ ∀ j', j' < k → nthN L i ≠ nthN L j') (fun j => i - (intOf j).toNat)
      case atStart => exact ⟨0, Nat.zero_le _, rfl, fun j h => absurd h (by omega)⟩
      case round =>
        obtain ⟨k, hk, rfl, hne⟩ := hrel
        have HNE := Lib.hid hne
        clear hne
        by_cases hlt2 : k < i
        · obtain ⟨b', off', e', _, hcell2⟩ := HN.out k (by omega)
          injection e' with e'; injection e' with e1 e2; subst e1; subst e2
          by_cases heq : nthN L i = nthN L k
          · have t1 : ((nthN L i : Int) == (nthN L k : Int)) = true := by simp; omega
            have HV := Lib.hid (plE_no (not_nodup hlt hlt2 heq))
            clear heq
            go_wp2
            go_ret
            exact Ret.int (by rw [HV.out])
          · have t1 : ((nthN L i : Int) == (nthN L k : Int)) = false := by simp; omega
            have HQ := Lib.hid heq
            clear heq
            go_wp2
            go_round
            case rel =>
              refine ⟨k + 1, by omega, by go_num, fun j' hj => ?_⟩
              rcases Nat.lt_or_ge j' k with h | h
              · exact HNE.out j' h
              · obtain rfl : j' = k := by omega
                exact HQ.out
            case measure => simp [intOf]; omega
        · obtain rfl : k = i := by omega
          go_wp2
          go_round
          case rel => exact ⟨k + 1, by omega, by go_num, nodup_snoc hlt HND.out HNE.out⟩
          case measure => simp [intOf]; omega
    · obtain rfl : i = L.length := by omega
      have HV := Lib.hid (plE_yes (L := L) (by have := HND.out; rwa [List.take_length] at this))
      go_wp2
      go_ret
      exact Ret.int (by rw [HV.out])
end Go.Proofs.YtlhipgejiacklaaDoor
namespace Go.Proofs.YtlhipgejiacklaaDoor
open Go.RowKit

theorem elem_one (p : Nat) (w : World) (hp : 1 ≤ p) (hp2 : p ≤ 2147483648) : Calls Tryd.prog 106 #[.int .i64 p, .int .i64 1] w (Ret (.int .i64 (fone p : Nat)) w) := by
  have h := element_nat p 1 w hp hp2
  exact h
theorem topN_skip {p i x : Nat} {xs : List Nat} {k : Nat} (h : k = i) : topN p i x xs (k + 1) = topN p i x xs k := by simp only [topN]; rw [if_pos h]
theorem topN_go {p i x : Nat} {xs : List Nat} {k : Nat} (h : ¬ k = i) : topN p i x xs (k + 1) = fmul p (topN p i x xs k) (fsub p x (nthN xs k)) := by simp only [topN]; rw [if_neg h]
theorem wN_of {p : Nat} {xs : List Nat} {i x a b : Nat} (ha : a = topN p i x xs xs.length) (hb : b = topN p i (nthN xs i) xs xs.length) : fmul p a (invV p b) = wN p xs i x := by rw [ha, hb]; rfl

set_option maxRecDepth 100000 in
set_option maxHeartbeats 1000000 in
theorem weight_any (p : Nat) (A : Option Addr) (L : List Nat) (cap i x : Nat) (w : World) (hp : 2 ≤ p) (hp2 : p ≤ 2147483648) (hN : NatsAt w A L) (hL : ∀ y ∈ L, y < p) (hl : L.length ≤ 1073741824) (hi : i < L.length) (hx : x < p) :
    Calls Tryd.prog 95 #[.int .i64 p, .slice A L.length cap, .int .i64 i, .int .i64 x] w (RetB (.int .i64 (wN p L i x : Nat)) w) := by
  have hp1 : 1 ≤ p := by omega
  have HN := Lib.hid hN
  have HL := Lib.hid (nthN_lt hp1 hL)
  have hxi := nthN_lt hp1 hL i
  have hmx : Tryd.prog.follows .mixedOrders = true := by kernel_rfl
  clear hN hL
  go_enter Tryd.func95, Tryd.ntmps95
  go_wp2_with (go_at_call 106; refine ret_pure (elem_one p _ hp1 hp2) ?_)
  go_loopw [9, 10, 21] (fun a b j wr => ∃ (k a' b' : Nat), k ≤ L.length ∧ j = .int .i64 k ∧ a = .int .i64 a' ∧ b = .int .i64 b' ∧ a' < p ∧ b' < p ∧ a' = topN p i x L k ∧ b' = topN p i (nthN L i) L k ∧ Below w.heap.size w wr) (fun _ _ j _ => L.length - (intOf j).toNat)
  case atStart => exact ⟨0, fone p, fone p, Nat.zero_le _, rfl, rfl, rfl, fone_lt hp1, fone_lt hp1, rfl, rfl, Below.refl _ _⟩
  case round =>
    obtain ⟨k, a, b, hk, rfl, rfl, rfl, ha, hb, hae, hbe, hbr⟩ := hrel
    have HAE := Lib.hid hae
    have HBE := Lib.hid hbe
    clear hae hbe
    by_cases hlt : k < L.length
    · obtain ⟨bA, oA, rfl, hbA, hcA⟩ := (HN.out.below hbr) k hlt
      by_cases hki : k = i
      · have t1 : ((k : Int) != (i : Int)) = false := by simp; omega
        have HKI := Lib.hid hki
        clear hki
        go_wp2_with fail
        go_roundw
        case rel => exact ⟨k + 1, a, b, by omega, by go_num, rfl, rfl, ha, hb, by rw [topN_skip HKI.out]; exact HAE.out, by rw [topN_skip HKI.out]; exact HBE.out, hbr⟩
        case measure => simp [intOf]; omega
      · have t1 : ((k : Int) != (i : Int)) = true := by simp; omega
        have HKI := Lib.hid hki
        clear hki
        obtain ⟨bI, oI, eI, hbI, hcI⟩ := (HN.out.below hbr) i hi
        injection eI with eI; injection eI with e1 e2; subst e1; subst e2
        have hy := HL.out k
        have hs1 := fsub_lt hp1 x (nthN L k)
        have hs2 := fsub_lt hp1 (nthN L i) (nthN L k)
        have i1 : (0 : Int) ≤ (i : Int) := by omega
        have i2 : (i : Int) < (L.length : Int) := by omega
        go_wp2_with fail
        go_quiet ((first
          | (go_at_call 107; exact Calls.quiet_of_same (sub_nat p _ _ _ hp1 hp2 (by assumption) (by assumption)))
          | (go_at_call 98; exact Calls.quiet_of_same (mul_nat p _ _ _ hp1 hp2 (by assumption) (by assumption)))))
        go_wp2_with fail
        go_roundw
        case rel => exact ⟨k + 1, fmul p a (fsub p x (nthN L k)), fmul p b (fsub p (nthN L i) (nthN L k)), by omega, by go_num, rfl, rfl, fmul_lt hp1 _ _, fmul_lt hp1 _ _, by rw [topN_go HKI.out, HAE.out], by rw [topN_go HKI.out, HBE.out], below_drewN hbr _⟩
        case measure => simp [intOf]; omega
    · obtain rfl : k = L.length := by omega
      have HW := Lib.hid (wN_of HAE.out HBE.out)
      have hil := invV_lt hp1 b
      go_wp2_with fail
      refine ret_pure (inverse_any p b _ hp hp2 hb) ?_
      go_wp2_with fail
      refine ret_pure (mul_nat p a (invV p b) _ hp1 hp2 ha hil) ?_
      go_wp2_with fail
      go_ret
      exact RetB.int (by rw [HW.out]) hbr

/-- A new list, and an error. -/
def ListErr (L : List Nat) (er : Int) (w : World) (e : Ending) (w' : World) : Prop :=
  ∃ A c, e = .returned (.tuple #[.slice A L.length c, .int .i64 er]) ∧ NatsAt w' A L ∧ SlOK A c L ∧ (∀ b off, A = some ⟨b, off, none⟩ → w.heap.size ≤ b ∧ b < w'.heap.size) ∧ Below w.heap.size w w'
theorem ListErr.nil (er : Int) {w w' : World} (hb : Below w.heap.size w w') : ListErr [] er w (.returned (.tuple #[.slice none 0 0, .int .i64 er])) w' :=
  ⟨none, 0, rfl, NatsAt.nil _ _, SlOK.none0, fun b off e => (by cases e), hb⟩
def wsR (p : Nat) (xs : List Nat) (x : Nat) : List Nat := if ckE xs = 0 then wsN p xs x else []
theorem wsR_ok {p : Nat} {xs : List Nat} {x : Nat} (h : ckE xs = 0) : wsR p xs x = wsN p xs x := if_pos h
theorem wsR_no {p : Nat} {xs : List Nat} {x : Nat} (h : ¬ ckE xs = 0) : wsR p xs x = [] := if_neg h
theorem ckE_ok {xs : List Nat} (h0 : ¬ xs.length = 0) (hn : xs.Nodup) : ckE xs = 0 := by rw [ckE_pos h0, plE_yes hn]
theorem ckE_back {xs : List Nat} (h : ckE xs = 0) : 0 < xs.length ∧ xs.Nodup := by
  unfold ckE plE at h
  split at h
  · omega
  · split at h
    · exact ⟨by omega, by assumption⟩
    · omega
set_option maxRecDepth 100000 in
set_option maxHeartbeats 1000000 in
theorem weights_any (p : Nat) (A : Option Addr) (L : List Nat) (cap x : Nat) (w : World) (hp : 2 ≤ p) (hp2 : p ≤ 2147483648) (hN : NatsAt w A L) (hL : ∀ y ∈ L, y < p) (hl : L.length ≤ 1073741824) (hx : x < p) :
    Calls Tryd.prog 76 #[.int .i64 p, .slice A L.length cap, .int .i64 x] w (ListErr (wsR p L x) (ckE L) w) := by
  have hck := check_any A L cap w hN hl (fun x hx => by have := hL x hx; omega)
  by_cases h0 : ckE L = 0
  · have HR := Lib.hid (wsR_ok (p := p) (x := x) h0)
    rw [h0] at hck ⊢
    have HC := Lib.hid hck
    have HN := Lib.hid hN
    have HL := Lib.hid hL
    have HLN := Lib.hid (wsN_len p L x)
    have HWN := Lib.hid (fun i (h : i < L.length) => wsN_nth p L x h)
    clear h0 hck hN hL
    go_enter Tryd.func76, Tryd.ntmps76
    go_wp2_with fail
    refine ret_below HC.out ?_
    intro w1 hb1
    go_wp2_with (at_make; refine make_nats rfl _ _ rfl L.length rfl rfl rfl (by omega) ?_; intro w2 hB2 hb2)
    have hb12 := below_trans hb1 hb2
    have hz1 := hb1.size
    go_loopw [21] (fun i wr => ∃ (k : Nat) (cs : List Nat), k ≤ L.length ∧ i = .int .i64 k ∧ NatBlk wr w1.heap.size cs ∧ cs.length = L.length ∧ (∀ j, j < k → nthN cs j = nthN (wsN p L x) j) ∧ Below w.heap.size w wr) (fun i _ => L.length - (intOf i).toNat)
    case atStart => exact ⟨0, _, by omega, rfl, hB2, by simp, fun j hj => absurd hj (by omega), hb12⟩
    case round =>
      obtain ⟨k, cs, hk, rfl, hBk, hcl, hcs, hbr⟩ := hrel
      have HCL := Lib.hid hcl
      have HCS := Lib.hid hcs
      clear hcl hcs
      by_cases hkn : k < L.length
      · go_wp2_with fail
        refine ret_below (weight_any p A L cap k x wr hp hp2 (HN.out.below hbr) HL.out hl hkn hx) ?_
        intro w3 hb3
        have hB3 := hBk.below hb3
        have hcc := hB3.cell k (by rw [HCL.out]; exact hkn)
        have hff := hB3.frozen k
        have HS := Lib.hid (hB3.set_ k (wN p L k x))
        have HBR := Lib.hid ((below_trans hbr hb3).setCell (p := ⟨w1.heap.size, k, none⟩) hz1 (.int .i64 ((wN p L k x : Nat) : Int)))
        clear hb3 hB3
        go_wp2_with fail
        go_roundw
        case rel =>
          refine ⟨k + 1, cs.set k (wN p L k x), by omega, by go_num, HS.out, by rw [List.length_set]; exact HCL.out, fun j hj => ?_, HBR.out⟩
          by_cases hjk : k = j
          · subst hjk; rw [nthN_set_same _ _ _ (by rw [HCL.out]; exact hkn), HWN.out k hkn]
          · rw [nthN_set_other _ _ _ _ hjk]; exact HCS.out j (by omega)
        case measure => simp [intOf]; omega
      · have HE : Hid (cs = wsN p L x) := extN (by rw [HCL.out, HLN.out]) (fun j hj => HCS.out j (by rw [HCL.out] at hj; omega))
        go_wp2_with fail
        go_ret2
        rw [HR.out]
        refine ⟨some ⟨w1.heap.size, 0, none⟩, L.length, by rw [HLN.out]; rfl, by rw [← HE.out]; exact hBk.nats, ?_, fun b off e => ?_, hbr⟩
        · have := SlOK.own hBk (by rw [HCL.out]; unfold maxLen; omega)
          rw [HCL.out, HE.out] at this; exact this
        · injection e with e; injection e with e1; subst e1; exact ⟨hz1, hBk.lt⟩
  · have HR := Lib.hid (wsR_no (p := p) (x := x) h0)
    have HC := Lib.hid hck
    have t1 : (ckE L != 0) = true := by simp; exact h0
    clear h0 hck hN hL
    go_enter Tryd.func76, Tryd.ntmps76
    go_wp2_with fail
    refine ret_below HC.out ?_
    intro w1 hb1
    go_wp2_with fail
    go_ret2
    rw [HR.out]
    exact ListErr.nil _ hb1

set_option maxRecDepth 100000 in
set_option maxHeartbeats 1000000 in
theorem weigh_any (p : Nat) (A B : Option Addr) (W Y : List Nat) (ca cb : Nat) (w : World) (hp : 1 ≤ p) (hp2 : p ≤ 2147483648) (hA : NatsAt w A W) (hB : NatsAt w B Y) (hW : ∀ y ∈ W, y < p) (hY : ∀ y ∈ Y, y < p) (hl : W.length ≤ Y.length) (hl2 : Y.length ≤ 1073741824) :
    Calls Tryd.prog 86 #[.int .i64 p, .slice A W.length ca, .slice B Y.length cb] w (Ret (.int .i64 (wgN p W Y W.length : Nat)) w) := by
  have HA := Lib.hid hA
  have HB := Lib.hid hB
  have HW := Lib.hid (nthN_lt hp hW)
  have HY := Lib.hid (nthN_lt hp hY)
  clear hA hB hW hY
  go_enter Tryd.func86, Tryd.ntmps86
  go_wp2_with fail
  go_loop [7, 12] (fun v i => ∃ (k v' : Nat), k ≤ W.length ∧ i = .int .i64 k ∧ v = .int .i64 v' ∧ v' < p ∧ v' = wgN p W Y k) (fun _ i => W.length - (intOf i).toNat)
  case atStart => exact ⟨0, 0, Nat.zero_le _, rfl, rfl, hp, rfl⟩
  case round =>
    obtain ⟨k, v, hk, rfl, rfl, hv, hve⟩ := hrel
    have HV := Lib.hid hve
    clear hve
    by_cases hlt : k < W.length
    · obtain ⟨bA, oA, rfl, hbA, hcA⟩ := HA.out k hlt
      obtain ⟨bB, oB, rfl, hbB, hcB⟩ := HB.out k (by omega)
      have h1 := HW.out k
      have h2 := HY.out k
      have h3 := fmul_lt hp (nthN W k) (nthN Y k)
      go_wp2_with fail
      refine ret_pure (mul_nat p (nthN W k) (nthN Y k) _ hp hp2 h1 h2) ?_
      go_wp2_with fail
      refine ret_pure (add_nat p v (fmul p (nthN W k) (nthN Y k)) _ hp hp2 hv h3) ?_
      go_wp2_with fail
      go_round
      case rel => exact ⟨k + 1, _, by omega, by go_num, rfl, fadd_lt hp _ _, by rw [HV.out]; rfl⟩
      case measure => simp [intOf]; omega
    · obtain rfl : k = W.length := by omega
      go_wp2_with fail
      go_ret
      exact Ret.int (by rw [HV.out])

/-- A number, and an error. -/
def itE (xs ys : List Nat) : Int := if xs.length = ys.length then ckE xs else 1
def itV (p : Nat) (xs ys : List Nat) (x : Nat) : Nat := if itE xs ys = 0 then wgN p (wsN p xs x) ys xs.length else 0
theorem itE_len {xs ys : List Nat} (h : xs.length = ys.length) : itE xs ys = ckE xs := if_pos h
theorem itE_no {xs ys : List Nat} (h : ¬ xs.length = ys.length) : itE xs ys = 1 := if_neg h
theorem itV_ok {p : Nat} {xs ys : List Nat} {x : Nat} (h : itE xs ys = 0) : itV p xs ys x = wgN p (wsN p xs x) ys xs.length := if_pos h
theorem itV_no {p : Nat} {xs ys : List Nat} {x : Nat} (h : ¬ itE xs ys = 0) : itV p xs ys x = 0 := if_neg h
theorem pairB {w w' : World} {x y : Nat} {a b : Int} (h1 : x = y) (h2 : a = b) (hb : Below w.heap.size w w') : RetB (.tuple #[.int .i64 (y : Int), .int .i64 b]) w (.returned (.tuple #[.int .i64 (x : Int), .int .i64 a])) w' := by
  subst h1; subst h2; exact ⟨rfl, hb⟩
end Go.Proofs.YtlhipgejiacklaaDoor
