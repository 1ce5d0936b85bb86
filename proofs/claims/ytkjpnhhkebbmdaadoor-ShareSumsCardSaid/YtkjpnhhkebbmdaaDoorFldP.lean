/-
  Fields for the layers above: inverses, primes of the dice, the document's differences and inverses.
-/
import Derived.Test.YtkjpnhhkebbmdaaDoorFieldA
namespace Go.Proofs.YtkjpnhhkebbmdaaDoor
open Go.RowKit

def finv (p a : Nat) : Nat := fpow p a (p - 2)
def invE (a : Nat) : Int := if a = 0 then 7 else 0
def invV (p a : Nat) : Nat := if a = 0 then 0 else finv p a
theorem inv_zero (p a : Nat) (h : a = 0) : invV p a = 0 ∧ invE a = 7 := by simp [invV, invE, h]
theorem inv_pos (p a : Nat) (h : ¬ a = 0) : invV p a = finv p a ∧ invE a = 0 := by simp [invV, invE, h]
theorem pair_nat {x y : Nat} {a b : Int} (h : x = y ∧ b = a) : Value.tuple #[.int .i64 (y : Int), .int .i64 a] = Value.tuple #[.int .i64 (x : Int), .int .i64 b] := by rw [h.1, h.2]
set_option maxHeartbeats 400000 in
theorem inverse_any (p a : Nat) (w : World) (hp : 2 ≤ p) (hp2 : p ≤ 2147483648) (ha : a < p) :
    Calls Tryd.prog 76 #[.int .i64 p, .int .i64 a] w (Ret (.tuple #[.int .i64 (invV p a : Nat), .int .i64 (invE a)]) w) := by
  by_cases h : a = 0
  · have HV := Lib.hid (inv_zero p a h)
    have t1 : ((a : Int) == 0) = true := by simp; omega
    have HA := Lib.hid h
    clear h
    go_enter Tryd.func76, Tryd.ntmps76
    go_wp2
    go_ret2
    exact Ret.val (pair_nat (x := invV p a) (y := 0) HV.out)
  · have HV := Lib.hid (inv_pos p a h)
    have t1 : ((a : Int) == 0) = false := by simp; omega
    have e1 : (p : Int) - 2 = ((p - 2 : Nat) : Int) := by omega
    have HE := Lib.hid e1
    clear h e1
    go_enter Tryd.func76, Tryd.ntmps76
    go_wp2_with fail
    rw [HE.out]
    refine ret_pure (fpower_any p a (p - 2) _ (by omega) (by omega) ha (by omega)) ?_
    rw [show fpow p a (p - 2) = finv p a from rfl]
    go_wp2_with fail
    go_ret2
    exact Ret.val (pair_nat (x := invV p a) (y := finv p a) HV.out)
/-- Powers with a whole exponent. -/
def powV (p a : Nat) (n : Int) : Nat := if 0 ≤ n then fpow p a n.toNat else if a = 0 then 0 else fpow p (finv p a) (-n).toNat
theorem powV_pos (p a : Nat) (n : Nat) : fpow p a n = powV p a (n : Int) := by unfold powV; rw [if_pos (by omega), Int.toNat_natCast]
theorem powV_zero (p a : Nat) (n : Int) (h : ¬ 0 ≤ n) (ha : a = 0) : 0 = powV p a n := by unfold powV; rw [if_neg h, if_pos ha]
theorem powV_neg (p a : Nat) (n : Int) (h : ¬ 0 ≤ n) (ha : ¬ a = 0) : fpow p (finv p a) (-n).toNat = powV p a n := by unfold powV; rw [if_neg h, if_neg ha]
def primesL : List Int := [7, 2, 3, 5, 11, 13, 23, 101, 257, 65537, 1000003, 500000003]
def PrimeP (D : Nat) (R : List Int) (w : World) (e : Ending) (w' : World) : Prop :=
  ∃ p : Nat, e = .returned (.int .i64 p) ∧ PrimeN p ∧ p ≤ 500000003 ∧ ((p : Int) = nth primesL (nextV R 12).toNat) ∧ DiceAt w' D R.tail ∧ w.grownBy w' (some D)
theorem primes_ok (k : Nat) (h : k < 12) : ∃ p : Nat, (p : Int) = nth primesL k ∧ PrimeN p ∧ p ≤ 500000003 := by
  have : k = 0 ∨ k = 1 ∨ k = 2 ∨ k = 3 ∨ k = 4 ∨ k = 5 ∨ k = 6 ∨ k = 7 ∨ k = 8 ∨ k = 9 ∨ k = 10 ∨ k = 11 := by omega
  rcases this with rfl | rfl | rfl | rfl | rfl | rfl | rfl | rfl | rfl | rfl | rfl | rfl
  · exact ⟨7, rfl, prime_7, by omega⟩
  · exact ⟨2, rfl, prime_2, by omega⟩
  · exact ⟨3, rfl, prime_3, by omega⟩
  · exact ⟨5, rfl, prime_5, by omega⟩
  · exact ⟨11, rfl, prime_11, by omega⟩
  · exact ⟨13, rfl, prime_13, by omega⟩
  · exact ⟨23, rfl, prime_23, by omega⟩
  · exact ⟨101, rfl, prime_101, by omega⟩
  · exact ⟨257, rfl, prime_257, by omega⟩
  · exact ⟨65537, rfl, prime_65537, by omega⟩
  · exact ⟨1000003, rfl, prime_1000003, by omega⟩
  · exact ⟨500000003, rfl, prime_500000003, by omega⟩
set_option maxHeartbeats 400000 in
theorem prime_any (D : Nat) (R : List Int) (w : World) (h : DiceAt w D R) :
    Calls Tryd.prog 15 #[.pointer (some ⟨D, 0, none⟩)] w (PrimeP D R w) := by
  have hlt := h.lt
  go_enter Tryd.func15, Tryd.ntmps15
  go_wp2_with fail
  refine (next_any D R 12 _ (h.alloc _) (by omega)).mono ?_
  rintro e w1 ⟨rfl, hD1, hg⟩
  obtain ⟨x1, x2⟩ := nextV_range R 12 (by omega)
  have hI := (lit_ints w primesL).grown hg (fun b off e => by injection e with e; injection e with e1; omega)
  have HH := Lib.hid (And.intro hD1 (grown_trans (grown_of_below (r := some D) (below_alloc w _)) hg))
  clear hD1 hg h
  generalize hv : nextV R 12 = v at *
  have HV := Lib.hid hv
  obtain ⟨k, rfl⟩ := Int.eq_ofNat_of_zero_le x1
  have hk : k < primesL.length := by simp [primesL]; omega
  obtain ⟨p, hp, hpp, hp5⟩ := primes_ok k (by omega)
  have HP := Lib.hid hp
  have HPP := Lib.hid hpp
  obtain ⟨b, off, e, hbl, hcell⟩ := hI k hk
  injection e with e
  injection e with e1 e2
  subst e1; subst e2
  rw [Nat.zero_add, ← hp] at hcell
  clear hv hI hp hpp hk
  go_wp2_with fail
  go_ret
  exact ⟨p, rfl, HPP.out, hp5, by rw [HV.out, Int.toNat_natCast]; exact HP.out, HH.out⟩
theorem not_dvd_elem {p x : Nat} (hx : x < p) (h0 : ¬ x = 0) : ¬ p ∣ x := fun h => by have := Nat.le_of_dvd (by omega) h; omega
set_option maxHeartbeats 400000 in
theorem refSub_nat (p a b : Nat) (w : World) (hp : 1 ≤ p) (hp2 : p ≤ 2147483648) (ha : a < p) (hb : b < p) :
    Calls Tryd.prog 86 #[.int .i64 p, .int .i64 a, .int .i64 b] w (Ret (.int .i64 (fsub p a b : Nat)) w) := by
  have h3 : ¬ (p : Int) = 0 := by omega
  have h4 : ((p : Int) == 0) = false := by simp; omega
  have e1 : IntKind.i64.wrap ((a : Int) - b) = (a : Int) - b := IntWalk.i64_in _ (by omega)
  have e3 : IntKind.i64.wrap ((a : Int) - b + p) = (a : Int) - b + p := IntWalk.i64_in _ (by omega)
  have e2 : ((a : Int) - b + p).tmod p = (fsub p a b : Nat) := by
    rw [Int.tmod_eq_emod_of_nonneg (by omega), show (a : Int) - b + p = ((a + (p - b) : Nat) : Int) by omega]; rfl
  have hl := fsub_lt hp a b
  go_enter Tryd.func86, Tryd.ntmps86
  go_wp2
  go_ret
  exact Ret.int rfl
/-- The exponent that the document's power reduces to. -/
def redE (p : Nat) (n : Int) : Nat := (n % ((p - 1 : Nat) : Int)).toNat
theorem pow_red {p x : Nat} (hp : PrimeN p) (hx : x < p) (h0 : ¬ x = 0) (n : Int) : fpow p x (redE p n) = powV p x n := by
  have h2 := hp.1
  have hper : ∀ j k : Nat, fpow p x ((p - 1) * j + k) = fpow p x k := fun j k => by
    have h1 : x ^ (p - 1) % p = 1 := flt hp (not_dvd_elem hx h0)
    unfold fpow
    rw [Nat.pow_add, Nat.pow_mul, Nat.mul_mod, Nat.pow_mod, h1, Nat.one_pow, Nat.mod_eq_of_lt (show 1 < p by omega), Nat.one_mul, Nat.mod_mod]
  by_cases hn : 0 ≤ n
  · obtain ⟨n, rfl⟩ := Int.eq_ofNat_of_zero_le hn
    rw [← powV_pos]
    have : redE p (n : Int) = n % (p - 1) := by unfold redE; rw [← Int.natCast_emod, Int.toNat_natCast]
    rw [this]
    conv => rhs; rw [← Nat.div_add_mod n (p - 1)]
    exact (hper _ _).symm
  · rw [← powV_neg p x n hn h0]
    obtain ⟨m, hm⟩ : ∃ m : Nat, n = -(m : Int) := ⟨(-n).toNat, by omega⟩
    subst hm
    rw [show (-(-(m : Int))).toNat = m by omega]
    -- x^(p-2)^m
    have e1 : fpow p (finv p x) m = fpow p x ((p - 2) * m) := by
      unfold fpow finv fpow; rw [← Nat.pow_mod, Nat.pow_mul]
    rw [e1]
    have hq : ∃ j : Nat, (p - 2) * m = (p - 1) * j + redE p (-(m : Int)) := by
      have hr := Int.emod_nonneg (-(m : Int)) (b := ((p - 1 : Nat) : Int)) (by omega)
      have hd := Int.emod_add_mul_ediv (-(m : Int)) ((p - 1 : Nat) : Int)
      have hz : (((p - 2) * m : Nat) : Int) = ((p - 1 : Nat) : Int) * m + -(m : Int) := by
        rw [Int.natCast_mul, show ((p - 2 : Nat) : Int) = ((p - 1 : Nat) : Int) - 1 by omega, Int.sub_mul]; omega
      have hz2 : (((p - 2) * m : Nat) : Int) = ((p - 1 : Nat) : Int) * ((m : Int) + -(m : Int) / ((p - 1 : Nat) : Int)) + (redE p (-(m : Int)) : Nat) := by
        rw [hz, Int.mul_add]; unfold redE; rw [Int.toNat_of_nonneg hr]; omega
      have hjn : 0 ≤ (m : Int) + -(m : Int) / ((p - 1 : Nat) : Int) := by
        have : -(m : Int) ≤ -(m : Int) / ((p - 1 : Nat) : Int) := by
          rw [Int.le_ediv_iff_mul_le (by omega)]
          have : (m : Int) * 1 ≤ (m : Int) * ((p - 1 : Nat) : Int) := Int.mul_le_mul_of_nonneg_left (by omega) (by omega)
          rw [Int.neg_mul]; omega
        omega
      obtain ⟨j, hj⟩ := Int.eq_ofNat_of_zero_le hjn
      refine ⟨j, ?_⟩
      rw [hj] at hz2
      have : (((p - 2) * m : Nat) : Int) = (((p - 1) * j + redE p (-(m : Int)) : Nat) : Int) := by rw [hz2]; push_cast; rfl
      omega
    obtain ⟨j, hj⟩ := hq
    rw [hj, hper]
theorem redE_eq (p : Nat) (n : Int) (hp : 2 ≤ p) : (n.tmod ((p : Int) - 1) + p - 1) % ((p : Int) - 1) = (redE p n : Nat) := by
  have h := modI_tmod n ((p : Int) - 1) (by omega)
  rw [modI_ge _ _ (by omega)] at h
  have e : ((p - 1 : Nat) : Int) = (p : Int) - 1 := by omega
  have hr := Int.emod_nonneg n (b := (p : Int) - 1) (by omega)
  unfold redE
  rw [e, Int.toNat_of_nonneg hr, Int.add_sub_assoc, Int.add_emod_right, h]
theorem redE_lt (p : Nat) (n : Int) (hp : 2 ≤ p) : redE p n < p := by
  have h1 := Int.emod_lt_of_pos n (b := ((p - 1 : Nat) : Int)) (by omega)
  unfold redE; omega
theorem and_one_i64 (E : Int) (h0 : 0 ≤ E) (h1 : E ≤ 9223372036854775807) : bits BinOp.and IntKind.i64 E 1 = E % 2 := by
  have h := and_one_u64 E h0 (by omega)
  have key : bits BinOp.and IntKind.i64 E 1 = if (true && decide (bits BinOp.and IntKind.u64 E 1 ≥ 2 ^ 63)) = true then bits BinOp.and IntKind.u64 E 1 - 2 ^ 64 else bits BinOp.and IntKind.u64 E 1 := rfl
  rw [key, h, if_neg]
  simp
  omega
set_option maxHeartbeats 400000 in
theorem refPow_nz (p a : Nat) (n : Int) (w : World) (hp : PrimeN p) (hp2 : p ≤ 2147483648) (ha : a < p) (h0 : ¬ a = 0) (hn0 : ¬ n = 0) (_ : -9223372036854775808 ≤ n) (_ : n ≤ 9223372036854775807) :
    Calls Tryd.prog 91 #[.int .i64 p, .int .i64 a, .int .i64 n] w (Ret (.int .i64 (powV p a n : Nat)) w) := by
  have h2 := hp.1
  have HV := Lib.hid (pow_red hp ha h0 n)
  have HE := Lib.hid (redE_eq p n h2)
  have hel := redE_lt p n h2
  have h1 := Int.tmod_lt_of_pos n (b := (p : Int) - 1) (by omega)
  have h3 := Int.lt_tmod_of_pos n (b := (p : Int) - 1) (by omega)
  have t0 : (n == 0) = false := by simp; omega
  have t1 : ((a : Int) == 0) = false := by simp; omega
  have t2 : ((p : Int) == 0) = false := by simp; omega
  have t3 : ¬ (p : Int) = 0 := by omega
  have t4 : ((p : Int) - 1 == 0) = false := by simp; omega
  have t5 : ¬ (p : Int) - 1 = 0 := by omega
  have e0 : (1 : Int) % (p : Int) = (fone p : Nat) := rfl
  have hf1 := fone_lt (show 1 ≤ p by omega)
  clear hp hn0 h0
  generalize redE p n = E at *
  go_enter Tryd.func91, Tryd.ntmps91
  go_wp2_with fail
  rw [HE.out]
  go_loop [1, 7, 8] (fun x n o => ∃ x' n' o' : Nat, x = .int .i64 x' ∧ n = .int .i64 n' ∧ o = .int .i64 o' ∧ x' < p ∧ o' < p ∧ n' < 2147483648 ∧ o' * x' ^ n' % p = fpow p a E) (fun _ n _ => (intOf n).toNat)
  case atStart => exact ⟨a, E, fone p, rfl, rfl, rfl, ha, by omega, by omega, by unfold fone fpow; rw [Nat.mul_mod, Nat.mod_mod, ← Nat.mul_mod, Nat.one_mul]⟩
  case round =>
    obtain ⟨x, n', o, rfl, rfl, rfl, hx, ho, hn', hinv⟩ := hrel
    have HI := Lib.hid hinv
    clear hinv
    by_cases hn0 : 0 < n'
    · have hbit := and_one_i64 (n' : Int) (by omega) (by omega)
      have m1 := mulN_bound hx hx hp2
      have x1 : (x : Int) * x = (x * x : Nat) := by push_cast; rfl
      have w1 : IntKind.i64.wrap ((x : Int) * x) = (x : Int) * x := IntWalk.i64_in _ (by omega)
      have r1 : ((x : Int) * x).tmod p = (fmul p x x : Nat) := by rw [x1, Int.tmod_eq_emod_of_nonneg (by omega)]; rfl
      have l1 := fmul_lt (show 1 ≤ p by omega) x x
      clear x1
      by_cases hodd : n' % 2 = 1
      · have hb : (bits BinOp.and IntKind.i64 (n' : Int) 1 == 1) = true := by rw [hbit]; simp; omega
        have m2 := mulN_bound ho hx hp2
        have x2 : (o : Int) * x = (o * x : Nat) := by push_cast; rfl
        have w2 : IntKind.i64.wrap ((o : Int) * x) = (o : Int) * x := IntWalk.i64_in _ (by omega)
        have r2 : ((o : Int) * x).tmod p = (fmul p o x : Nat) := by rw [x2, Int.tmod_eq_emod_of_nonneg (by omega)]; rfl
        have l2 := fmul_lt (show 1 ≤ p by omega) o x
        clear hbit x2
        go_wp2_with fail
        go_round
        case rel =>
          refine ⟨fmul p x x, n' / 2, fmul p o x, rfl, by go_num, rfl, fmul_lt (by omega) _ _, fmul_lt (by omega) _ _, by omega, ?_⟩
          rw [← HI.out]; exact pow_odd p o x n' hodd
        case measure => simp [intOf]; omega
      · have hb : (bits BinOp.and IntKind.i64 (n' : Int) 1 == 1) = false := by rw [hbit]; simp; omega
        clear hbit
        go_wp2_with fail
        go_round
        case rel =>
          refine ⟨fmul p x x, n' / 2, o, rfl, by go_num, rfl, fmul_lt (by omega) _ _, ho, by omega, ?_⟩
          rw [← HI.out]; exact pow_even p o x n' hodd
        case measure => simp [intOf]; omega
    · go_wp2_with fail
      go_ret
      refine Ret.int ?_
      have := HI.out
      rw [show n' = 0 by omega, Nat.pow_zero, Nat.mul_one, Nat.mod_eq_of_lt ho] at this
      rw [this, HV.out]
theorem powV_0_0 (p a : Nat) : powV p a 0 = fone p := (powV_pos p a 0).symm
theorem powV_0 (p : Nat) (n : Int) (h : ¬ n = 0) : powV p 0 n = 0 := by
  unfold powV
  split
  · unfold fpow; rw [Nat.zero_pow (by omega), Nat.zero_mod]
  · rfl
set_option maxHeartbeats 400000 in
theorem refPow_any (p a : Nat) (n : Int) (w : World) (hp : PrimeN p) (hp2 : p ≤ 2147483648) (ha : a < p) (hn : -9223372036854775808 ≤ n) (hn2 : n ≤ 9223372036854775807) :
    Calls Tryd.prog 91 #[.int .i64 p, .int .i64 a, .int .i64 n] w (Ret (.int .i64 (powV p a n : Nat)) w) := by
  have h2 := hp.1
  have t3 : ¬ (p : Int) = 0 := by omega
  have t2 : ((p : Int) == 0) = false := by simp; omega
  by_cases h0 : n = 0
  · subst h0
    have e0 : (1 : Int) % (p : Int) = (fone p : Nat) := rfl
    have HV := Lib.hid (powV_0_0 p a)
    have hf1 := fone_lt (show 1 ≤ p by omega)
    go_enter Tryd.func91, Tryd.ntmps91
    go_wp2
    go_ret
    exact Ret.int (by rw [HV.out]; rfl)
  · by_cases ha0 : a = 0
    · subst ha0
      have HV := Lib.hid (powV_0 p n h0)
      have t0 : (n == 0) = false := by simp; omega
      clear h0
      go_enter Tryd.func91, Tryd.ntmps91
      go_wp2
      go_ret
      exact Ret.int (by rw [HV.out]; rfl)
    · exact refPow_nz p a n w hp hp2 ha ha0 h0 hn hn2
set_option maxHeartbeats 400000 in
theorem refInverse_any (p a : Nat) (w : World) (hp : PrimeN p) (hp2 : p ≤ 2147483648) (ha : a < p) :
    Calls Tryd.prog 87 #[.int .i64 p, .int .i64 a] w (Ret (.tuple #[.int .i64 (invV p a : Nat), .int .i64 (invE a)]) w) := by
  have h2 := hp.1
  by_cases h : a = 0
  · have HV := Lib.hid (inv_zero p a h)
    have t1 : ((a : Int) == 0) = true := by simp; omega
    have HA := Lib.hid h
    clear h hp
    go_enter Tryd.func87, Tryd.ntmps87
    go_wp2
    go_ret2
    exact Ret.val (pair_nat (x := invV p a) (y := 0) HV.out)
  · have HV := Lib.hid (inv_pos p a h)
    have t1 : ((a : Int) == 0) = false := by simp; omega
    have HE := Lib.hid (show (p : Int) - 2 = ((p - 2 : Nat) : Int) by omega)
    have HP := Lib.hid hp
    have HF := Lib.hid (show powV p a ((p - 2 : Nat) : Int) = finv p a from (powV_pos p a (p - 2)).symm)
    clear h hp
    go_enter Tryd.func87, Tryd.ntmps87
    go_wp2_with fail
    rw [HE.out]
    refine ret_pure (refPow_any p a ((p - 2 : Nat) : Int) _ HP.out hp2 ha (by omega) (by omega)) ?_
    rw [HF.out]
    go_wp2_with fail
    go_ret2
    exact Ret.val (pair_nat (x := invV p a) (y := finv p a) HV.out)
end Go.Proofs.YtkjpnhhkebbmdaaDoor
