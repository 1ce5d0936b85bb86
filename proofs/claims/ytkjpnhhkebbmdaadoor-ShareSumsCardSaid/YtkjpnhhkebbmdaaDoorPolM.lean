/-
  Plain polynomials with whole coefficients, taken modulo a prime: roots, places and weights, the one polynomial through points. No program in sight.
-/
import Derived.Test.YtkjpnhhkebbmdaaDoorRefCP
namespace Go.Proofs.YtkjpnhhkebbmdaaDoor

/-! ### The same modulo p -/
def Cg (p : Nat) (a b : Int) : Prop := a % (p : Int) = b % (p : Int)
theorem Cg.refl (p : Nat) (a : Int) : Cg p a a := rfl
theorem Cg.of_eq {p : Nat} {a b : Int} (h : a = b) : Cg p a b := by rw [h]; exact rfl
theorem Cg.symm {p : Nat} {a b : Int} (h : Cg p a b) : Cg p b a := Eq.symm h
theorem Cg.trans {p : Nat} {a b c : Int} (h : Cg p a b) (g : Cg p b c) : Cg p a c := Eq.trans h g
theorem Cg.add {p : Nat} {a b c d : Int} (h : Cg p a b) (g : Cg p c d) : Cg p (a + c) (b + d) := by
  unfold Cg at *; rw [Int.add_emod, h, g, ← Int.add_emod]
theorem Cg.sub {p : Nat} {a b c d : Int} (h : Cg p a b) (g : Cg p c d) : Cg p (a - c) (b - d) := by
  unfold Cg at *; rw [Int.sub_emod, h, g, ← Int.sub_emod]
theorem Cg.mul {p : Nat} {a b c d : Int} (h : Cg p a b) (g : Cg p c d) : Cg p (a * c) (b * d) := by
  unfold Cg at *; rw [Int.mul_emod, h, g, ← Int.mul_emod]
theorem Cg.mod (p : Nat) (a : Int) : Cg p (a % (p : Int)) a := Int.emod_emod_of_dvd a (Int.dvd_refl _)
theorem Cg.nat {p a b : Nat} (h : Cg p a b) (ha : a < p) (hb : b < p) : a = b := by
  unfold Cg at h
  rw [Int.emod_eq_of_lt (by omega) (by omega), Int.emod_eq_of_lt (by omega) (by omega)] at h
  omega
theorem Cg.dvd {p : Nat} {a : Int} (h : Cg p a 0) : (p : Int) ∣ a := by
  unfold Cg at h; rw [Int.zero_emod] at h; exact Int.dvd_of_emod_eq_zero h
theorem Cg.of_dvd {p : Nat} {a : Int} (h : (p : Int) ∣ a) : Cg p a 0 := by
  unfold Cg; rw [Int.zero_emod]; exact Int.emod_eq_zero_of_dvd h
theorem Cg.sub_zero {p : Nat} {a b : Int} (h : Cg p a b) : Cg p (a - b) 0 := (h.sub (Cg.refl p b)).trans (.of_eq (by omega))
theorem Cg.of_sub {p : Nat} {a b : Int} (h : Cg p (a - b) 0) : Cg p a b := ((Cg.of_eq (show a = (a - b) + b by omega)).trans (h.add (Cg.refl p b))).trans (.of_eq (by omega))
theorem Cg.self (p : Nat) : Cg p (p : Int) 0 := Cg.of_dvd (Int.dvd_refl _)
theorem Cg.euclid {p : Nat} (hp : PrimeN p) {a b : Int} (h : Cg p (a * b) 0) : Cg p a 0 ∨ Cg p b 0 := by
  have h1 := h.dvd
  rw [Int.ofNat_dvd_left, Int.natAbs_mul] at h1
  rcases hp.euclid h1 with h2 | h2
  · exact .inl (Cg.of_dvd (by rw [Int.ofNat_dvd_left]; exact h2))
  · exact .inr (Cg.of_dvd (by rw [Int.ofNat_dvd_left]; exact h2))
theorem Cg.cancel {p : Nat} (hp : PrimeN p) {a b c : Int} (ha : ¬ Cg p a 0) (h : Cg p (a * b) (a * c)) : Cg p b c := by
  have h1 := h.sub_zero
  rw [← Int.mul_sub] at h1
  rcases Cg.euclid hp h1 with h2 | h2
  · exact absurd h2 ha
  · exact Cg.of_sub h2
theorem Cg.one_ne {p : Nat} (hp : PrimeN p) : ¬ Cg p 1 0 := fun h => by
  have h1 := h.dvd
  have h2 := Int.le_of_dvd (by omega) h1
  have := hp.1
  omega
theorem Cg.zero_nat {p a : Nat} (h : Cg p a 0) (ha : a < p) : a = 0 := Cg.nat (b := 0) h ha (by omega)

/-! ### The functions on elements -/
theorem cg_mod (p a : Nat) : Cg p ((a % p : Nat) : Int) a := by rw [Int.natCast_emod]; exact Cg.mod p a
theorem cg_add (p a b : Nat) : Cg p (fadd p a b : Nat) ((a : Int) + b) := by
  unfold fadd; rw [← Int.natCast_add]; exact cg_mod p _
theorem cg_mul (p a b : Nat) : Cg p (fmul p a b : Nat) ((a : Int) * b) := by
  unfold fmul; rw [← Int.natCast_mul]; exact cg_mod p _
theorem cg_sub (p a b : Nat) (h : b ≤ p) : Cg p (fsub p a b : Nat) ((a : Int) - b) := by
  unfold fsub
  refine (cg_mod p _).trans ?_
  rw [Int.natCast_add, Int.natCast_sub h]
  refine ((Cg.of_eq (show (a : Int) + ((p : Int) - b) = ((a : Int) - b) + p by omega)).trans ((Cg.refl p _).add (Cg.self p))).trans (.of_eq (by omega))
theorem cg_one (p : Nat) : Cg p (fone p : Nat) 1 := cg_mod p 1
theorem cg_inv {p a : Nat} (hp : PrimeN p) (ha : ¬ Cg p a 0) : Cg p ((a : Int) * (finv p a : Nat)) 1 := by
  have hd : ¬ p ∣ a := fun h => ha (Cg.of_dvd (Int.natCast_dvd_natCast.2 h))
  have h1 := flt hp hd
  have hp2 := hp.1
  have h2 : a * a ^ (p - 2) = a ^ (p - 1) := by rw [Nat.mul_comm, ← Nat.pow_succ]; congr 1; omega
  unfold finv fpow
  refine ((Cg.refl p _).mul (cg_mod p _)).trans ?_
  rw [← Int.natCast_mul, h2]
  unfold Cg
  have h3 : ((a ^ (p - 1) : Nat) : Int) % (p : Int) = ((a ^ (p - 1) % p : Nat) : Int) := (Int.natCast_emod _ _).symm
  rw [h3, h1, Int.emod_eq_of_lt (by omega) (by omega)]; rfl

/-! ### Values of polynomials; roots -/
def evalZ : List Int → Int → Int
  | [], _ => 0
  | c :: L, x => c + x * evalZ L x
theorem evalZ_zero (p : Nat) : ∀ (L : List Int) (x : Int), (∀ c ∈ L, Cg p c 0) → Cg p (evalZ L x) 0
  | [], _, _ => rfl
  | c :: L, x, h => by
    have h1 := (h c (by simp)).add ((Cg.refl p x).mul (evalZ_zero p L x fun d hd => h d (by simp [hd])))
    exact h1.trans (.of_eq (by simp))
/-- What a polynomial leaves when X - a is divided out. -/
def sdiv (a : Int) : List Int → List Int
  | [] => []
  | _ :: [] => []
  | _ :: d :: L => evalZ (d :: L) a :: sdiv a (d :: L)
theorem sdiv_len (a : Int) : ∀ L : List Int, (sdiv a L).length = L.length - 1
  | [] => rfl
  | _ :: [] => rfl
  | _ :: d :: L => by simp [sdiv, sdiv_len a (d :: L)]
theorem sdiv_eval (a x : Int) : ∀ L : List Int, evalZ L x = evalZ L a + (x - a) * evalZ (sdiv a L) x
  | [] => by simp [evalZ, sdiv]
  | c :: [] => by simp [evalZ, sdiv]
  | c :: d :: L => by
    have ih := sdiv_eval a x (d :: L)
    have e1 : evalZ (c :: d :: L) x = c + x * evalZ (d :: L) x := rfl
    have e2 : evalZ (c :: d :: L) a = c + a * evalZ (d :: L) a := rfl
    have e3 : evalZ (sdiv a (c :: d :: L)) x = evalZ (d :: L) a + x * evalZ (sdiv a (d :: L)) x := rfl
    rw [e1, e2, e3, ih]
    grind
theorem sdiv_zero (p : Nat) (a : Int) : ∀ L : List Int, Cg p (evalZ L a) 0 → (∀ c ∈ sdiv a L, Cg p c 0) → ∀ c ∈ L, Cg p c 0
  | [], _, _, c, hc => by cases hc
  | c :: [], h, _, d, hd => by
    simp at hd; subst hd
    simpa [evalZ] using h
  | c :: d :: L, h, hs, e, he => by
    have h1 : Cg p (evalZ (d :: L) a) 0 := hs _ (by simp [sdiv])
    have ih := sdiv_zero p a (d :: L) h1 (fun x hx => hs x (by simp [sdiv, hx]))
    rcases List.mem_cons.1 he with rfl | he
    · have h2 : Cg p (e + a * evalZ (d :: L) a) 0 := h
      have h3 := h2.sub ((Cg.refl p a).mul h1)
      exact ((Cg.of_eq (by grind)).trans h3).trans (.of_eq (by grind))
    · exact ih e he
/-- A polynomial that is 0 at as many different places as it has coefficients has none but 0. -/
theorem roots {p : Nat} (hp : PrimeN p) : ∀ (xs L : List Int), L.length ≤ xs.length → xs.Pairwise (fun a b => ¬ Cg p a b) → (∀ x ∈ xs, Cg p (evalZ L x) 0) → ∀ c ∈ L, Cg p c 0
  | [], L, hl, _, _, c, hc => by
    have : L = [] := List.eq_nil_of_length_eq_zero (by simpa using hl)
    subst this; cases hc
  | a :: xs, L, hl, hd, hz, c, hc => by
    rw [List.pairwise_cons] at hd
    refine sdiv_zero p a L (hz a (by simp)) (roots hp xs (sdiv a L) (by rw [sdiv_len]; simp at hl; omega) hd.2 fun x hx => ?_) c hc
    have h1 := hz x (by simp [hx])
    rw [sdiv_eval a x L] at h1
    have h2 : Cg p ((x - a) * evalZ (sdiv a L) x) 0 := by
      have := h1.sub (hz a (by simp))
      exact ((Cg.of_eq (by grind)).trans this).trans (.of_eq (by omega))
    rcases Cg.euclid hp h2 with h3 | h3
    · exact absurd (Cg.of_sub h3).symm (hd.1 x hx)
    · exact h3

/-! ### Sums, products, and polynomials of them -/
def addP : List Int → List Int → List Int
  | [], M => M
  | L, [] => L
  | a :: L, b :: M => (a + b) :: addP L M
theorem addP_len : ∀ L M : List Int, (addP L M).length = max L.length M.length
  | [], M => by simp [addP]
  | a :: L, [] => by simp [addP]
  | a :: L, b :: M => by simp [addP, addP_len L M]
theorem addP_eval (x : Int) : ∀ L M : List Int, evalZ (addP L M) x = evalZ L x + evalZ M x
  | [], M => by simp [addP, evalZ]
  | a :: L, [] => by simp [addP, evalZ]
  | a :: L, b :: M => by simp only [addP, evalZ, addP_eval x L M]; grind
def smulP (k : Int) (L : List Int) : List Int := L.map fun c => k * c
theorem smulP_len (k : Int) (L : List Int) : (smulP k L).length = L.length := by simp [smulP]
theorem smulP_eval (k x : Int) : ∀ L : List Int, evalZ (smulP k L) x = k * evalZ L x
  | [] => by simp [smulP, evalZ]
  | a :: L => by
    have ih := smulP_eval k x L
    simp only [smulP, List.map_cons, evalZ] at ih ⊢
    rw [ih]; grind
/-- X - y times a polynomial (and prev ahead of it). -/
def mxP (y : Int) : Int → List Int → List Int
  | prev, [] => [prev]
  | prev, c :: P => (prev - y * c) :: mxP y c P
theorem mxP_len (y : Int) : ∀ (prev : Int) (P : List Int), (mxP y prev P).length = P.length + 1
  | _, [] => rfl
  | _, c :: P => by simp [mxP, mxP_len y c P]
theorem mxP_eval (y x : Int) : ∀ (prev : Int) (P : List Int), evalZ (mxP y prev P) x = prev + (x - y) * evalZ P x
  | prev, [] => by simp [mxP, evalZ]
  | prev, c :: P => by simp only [mxP, evalZ, mxP_eval y x c P]; grind
def sumI : Nat → (Nat → Int) → Int
  | 0, _ => 0
  | n + 1, f => sumI n f + f n
def prodE (i : Nat) : Nat → (Nat → Int) → Int
  | 0, _ => 1
  | n + 1, f => if n = i then prodE i n f else prodE i n f * f n
def linE (i : Nat) (xs : Nat → Int) : Nat → List Int
  | 0 => [1]
  | n + 1 => if n = i then linE i xs n else mxP (xs n) 0 (linE i xs n)
theorem linE_eval (i : Nat) (xs : Nat → Int) (x : Int) : ∀ n, evalZ (linE i xs n) x = prodE i n fun k => x - xs k
  | 0 => by simp [linE, evalZ, prodE]
  | n + 1 => by
    have ih := linE_eval i xs x n
    by_cases h : n = i
    · simp only [linE, prodE, if_pos h]; exact ih
    · simp only [linE, prodE, if_neg h]; rw [mxP_eval, ih]; grind
theorem linE_len (i : Nat) (xs : Nat → Int) : ∀ n, (linE i xs n).length = if i < n then n else n + 1
  | 0 => by simp [linE]
  | n + 1 => by
    have ih := linE_len i xs n
    by_cases h : n = i
    · simp only [linE, if_pos h]; rw [ih, if_neg (by omega), if_pos (by omega)]
    · simp only [linE, if_neg h]; rw [mxP_len, ih]
      by_cases h2 : i < n
      · rw [if_pos h2, if_pos (by omega)]
      · rw [if_neg h2, if_neg (by omega)]
theorem prodE_zero {p : Nat} {i : Nat} {f : Nat → Int} : ∀ (n k : Nat), k < n → k ≠ i → Cg p (f k) 0 → Cg p (prodE i n f) 0
  | 0, k, h, _, _ => absurd h (by omega)
  | n + 1, k, h, hk, hz => by
    by_cases hn : n = i
    · simp only [prodE, if_pos hn]; exact prodE_zero n k (by omega) hk hz
    · simp only [prodE, if_neg hn]
      by_cases hkn : k = n
      · subst hkn; exact ((Cg.refl p _).mul hz).trans (.of_eq (by simp))
      · exact ((prodE_zero n k (by omega) hk hz).mul (Cg.refl p _)).trans (.of_eq (by simp))
theorem prodE_ne {p : Nat} (hp : PrimeN p) {i : Nat} {f : Nat → Int} : ∀ n : Nat, (∀ k, k < n → k ≠ i → ¬ Cg p (f k) 0) → ¬ Cg p (prodE i n f) 0
  | 0, _ => Cg.one_ne hp
  | n + 1, h => fun hc => by
    have ih := prodE_ne hp n (fun k hk => h k (by omega))
    by_cases hn : n = i
    · simp only [prodE, if_pos hn] at hc; exact ih hc
    · simp only [prodE, if_neg hn] at hc
      rcases Cg.euclid hp hc with h1 | h1
      · exact ih h1
      · exact h n (by omega) hn h1
theorem prodE_cg {p i : Nat} {f g : Nat → Int} : ∀ n : Nat, (∀ k, k < n → Cg p (f k) (g k)) → Cg p (prodE i n f) (prodE i n g)
  | 0, _ => rfl
  | n + 1, h => by
    have ih := prodE_cg (i := i) n (fun k hk => h k (by omega))
    by_cases hn : n = i
    · simp only [prodE, if_pos hn]; exact ih
    · simp only [prodE, if_neg hn]; exact ih.mul (h n (by omega))
theorem sumI_cg {p : Nat} {f g : Nat → Int} : ∀ n : Nat, (∀ k, k < n → Cg p (f k) (g k)) → Cg p (sumI n f) (sumI n g)
  | 0, _ => rfl
  | n + 1, h => (sumI_cg n (fun k hk => h k (by omega))).add (h n (by omega))
theorem sumI_zero {p : Nat} {f : Nat → Int} : ∀ n : Nat, (∀ k, k < n → Cg p (f k) 0) → Cg p (sumI n f) 0
  | 0, _ => rfl
  | n + 1, h => ((sumI_zero n (fun k hk => h k (by omega))).add (h n (by omega))).trans (.of_eq (by simp))
theorem sumI_one {p : Nat} {f : Nat → Int} (j : Nat) : ∀ n : Nat, j < n → (∀ k, k < n → k ≠ j → Cg p (f k) 0) → Cg p (sumI n f) (f j)
  | 0, hj, _ => absurd hj (by omega)
  | n + 1, hj, h => by
    by_cases hn : n = j
    · subst hn
      exact ((sumI_zero n (fun k hk => h k (by omega) (by omega))).add (Cg.refl p _)).trans (.of_eq (by simp))
    · exact ((sumI_one j n (by omega) (fun k hk => h k (by omega))).add (h n (by omega) hn)).trans (.of_eq (by simp))
theorem sumI_add (f g : Nat → Int) : ∀ n, sumI n (fun k => f k + g k) = sumI n f + sumI n g
  | 0 => by simp [sumI]
  | n + 1 => by simp only [sumI, sumI_add f g n]; omega
theorem sumI_mul (c : Int) (f : Nat → Int) : ∀ n, sumI n (fun k => c * f k) = c * sumI n f
  | 0 => by simp [sumI]
  | n + 1 => by simp only [sumI, sumI_mul c f n]; grind
theorem sumI_ext {f g : Nat → Int} : ∀ n, (∀ k, k < n → f k = g k) → sumI n f = sumI n g
  | 0, _ => rfl
  | n + 1, h => by simp only [sumI]; rw [sumI_ext n (fun k hk => h k (by omega)), h n (by omega)]
theorem sumI_comm (f : Nat → Nat → Int) (n : Nat) : ∀ m, sumI m (fun j => sumI n fun i => f i j) = sumI n fun i => sumI m fun j => f i j
  | 0 => by
    simp only [sumI]
    induction n with
    | zero => rfl
    | succ n ih => simp only [sumI, ← ih]; omega
  | m + 1 => by simp only [sumI]; rw [sumI_comm f n m, ← sumI_add]
def sumP : Nat → (Nat → List Int) → List Int
  | 0, _ => []
  | n + 1, f => addP (sumP n f) (f n)
theorem sumP_eval (f : Nat → List Int) (x : Int) : ∀ n, evalZ (sumP n f) x = sumI n fun k => evalZ (f k) x
  | 0 => rfl
  | n + 1 => by simp only [sumP, sumI]; rw [addP_eval, sumP_eval f x n]
theorem sumP_len (f : Nat → List Int) (m : Nat) : ∀ n, (∀ k, k < n → (f k).length ≤ m) → (sumP n f).length ≤ m
  | 0, _ => Nat.zero_le _
  | n + 1, h => by
    have := sumP_len f m n (fun k hk => h k (by omega))
    have := h n (by omega)
    simp only [sumP]; rw [addP_len]; omega

/-! ### The one polynomial through points -/
/-- Places of which no two are the same. -/
def DiffI (p n : Nat) (xs : Nat → Int) : Prop := ∀ i k, i < n → k < n → i ≠ k → ¬ Cg p (xs i) (xs k)
theorem DiffI.pw {p n : Nat} {xs : Nat → Int} (h : DiffI p n xs) : ((List.range n).map xs).Pairwise (fun a b => ¬ Cg p a b) := by
  rw [List.pairwise_map]
  have h0 : (List.range n).Pairwise (fun a b => a < b) := List.pairwise_lt_range
  refine List.Pairwise.imp_of_mem (fun {a b} ha hb hab => ?_) h0
  exact h a b (List.mem_range.1 ha) (List.mem_range.1 hb) (by omega)
/-- Two polynomials with no more coefficients than there are places, the same at each: the same everywhere, coefficient by coefficient. -/
theorem zero_of_places {p n : Nat} (hp : PrimeN p) {xs : Nat → Int} (hd : DiffI p n xs) {L : List Int} (hl : L.length ≤ n) (hz : ∀ i, i < n → Cg p (evalZ L (xs i)) 0) : ∀ c ∈ L, Cg p c 0 := by
  refine roots hp _ L (by simpa using hl) hd.pw fun x hx => ?_
  obtain ⟨i, hi, rfl⟩ := List.mem_map.1 hx
  exact hz i (List.mem_range.1 hi)
/-- Weights: products of differences, times the inverses of those at the place itself. -/
theorem interp {p n : Nat} (hp : PrimeN p) {xs v : Nat → Int} (hd : DiffI p n xs) (hv : ∀ i, i < n → Cg p (prodE i n (fun k => xs i - xs k) * v i) 1)
    {L : List Int} (hl : L.length ≤ n) (x : Int) : Cg p (sumI n fun i => prodE i n (fun k => x - xs k) * v i * evalZ L (xs i)) (evalZ L x) := by
  have key := zero_of_places hp hd (L := addP (sumP n fun i => smulP (v i * evalZ L (xs i)) (linE i xs n)) (smulP (-1) L))
    (by rw [addP_len, smulP_len]; have := sumP_len (fun i => smulP (v i * evalZ L (xs i)) (linE i xs n)) n n (fun k hk => by rw [smulP_len, linE_len, if_pos hk]; exact Nat.le_refl _); omega) (fun j hj => by
      rw [addP_eval, sumP_eval, smulP_eval]
      have h1 : Cg p (sumI n fun k => evalZ (smulP (v k * evalZ L (xs k)) (linE k xs n)) (xs j)) (evalZ (smulP (v j * evalZ L (xs j)) (linE j xs n)) (xs j)) := sumI_one j n hj (fun k hk hkj => by
        rw [smulP_eval, linE_eval]
        have := prodE_zero (p := p) (f := fun m => xs j - xs m) n j hj (by omega) (Cg.of_eq (by omega)) (i := k)
        exact ((Cg.refl p _).mul this).trans (.of_eq (by simp)))
      rw [smulP_eval, linE_eval] at h1
      have h2 := (hv j hj).mul (Cg.refl p (evalZ L (xs j)))
      have h3 := (h1.trans ((Cg.of_eq (by grind)).trans h2)).add (Cg.refl p (-1 * evalZ L (xs j)))
      exact h3.trans (.of_eq (by omega)))
  have h0 := evalZ_zero p _ x key
  rw [addP_eval, sumP_eval, smulP_eval] at h0
  refine Cg.of_sub (Cg.trans (.of_eq ?_) h0)
  have : (sumI n fun i => prodE i n (fun k => x - xs k) * v i * evalZ L (xs i)) = sumI n fun k => evalZ (smulP (v k * evalZ L (xs k)) (linE k xs n)) x :=
    sumI_ext n fun k _ => by rw [smulP_eval, linE_eval]; grind
  rw [this]; omega
end Go.Proofs.YtkjpnhhkebbmdaaDoor
