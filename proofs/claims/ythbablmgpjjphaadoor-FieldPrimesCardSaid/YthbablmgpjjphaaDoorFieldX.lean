/-
  Fields: inverses, powers, primes of the dice; the sanity check.
-/
import Derived.Test.YthbablmgpjjphaaDoorFieldW
namespace Go.Proofs.YthbablmgpjjphaaDoor
open Go.RowKit

def finv (p a : Nat) : Nat := fpow p a (p - 2)
def invE (a : Nat) : Int := if a = 0 then 7 else 0
def invV (p a : Nat) : Nat := if a = 0 then 0 else finv p a
theorem inv_zero (p a : Nat) (h : a = 0) : invV p a = 0 ∧ invE a = 7 := by simp [invV, invE, h]
theorem inv_pos (p a : Nat) (h : ¬ a = 0) : invV p a = finv p a ∧ invE a = 0 := by simp [invV, invE, h]
theorem pair_nat {x y : Nat} {a b : Int} (h : x = y ∧ b = a) : Value.tuple #[.int .i64 (y : Int), .int .i64 a] = Value.tuple #[.int .i64 (x : Int), .int .i64 b] := by rw [h.1, h.2]

set_option maxHeartbeats 400000 in
theorem inverse_any (p a : Nat) (w : World) (hp : 2 ≤ p) (hp2 : p ≤ 2147483648) (ha : a < p) :
    Calls Tryd.prog 20 #[.int .i64 p, .int .i64 a] w (Ret (.tuple #[.int .i64 (invV p a : Nat), .int .i64 (invE a)]) w) := by
  by_cases h : a = 0
  · have HV := Lib.hid (inv_zero p a h)
    have t1 : ((a : Int) == 0) = true := by simp; omega
    have HA := Lib.hid h
    clear h
    go_enter Tryd.func20, Tryd.ntmps20
    go_wp2
    go_ret2
    exact Ret.val (pair_nat (x := invV p a) (y := 0) HV.out)
  · have HV := Lib.hid (inv_pos p a h)
    have t1 : ((a : Int) == 0) = false := by simp; omega
    have e1 : (p : Int) - 2 = ((p - 2 : Nat) : Int) := by omega
    have HE := Lib.hid e1
    clear h e1
    go_enter Tryd.func20, Tryd.ntmps20
    go_wp2_with fail
    rw [HE.out]
    refine ret_pure (fpower_any p a (p - 2) _ (by omega) (by omega) ha (by omega)) ?_
    rw [show fpow p a (p - 2) = finv p a from rfl]
    go_wp2_with fail
    go_ret2
    exact Ret.val (pair_nat (x := invV p a) (y := finv p a) HV.out)

/-- Powers with a whole exponent. -/
def powV (p a : Nat) (n : Int) : Nat := if 0 ≤ n then fpow p a n.toNat else if a = 0 then 0 else fpow p (finv p a) (-n).toNat
theorem powV_pos (p a : Nat) (n : Nat) : fpow p a n = powV p a (n : Int) := by unfold powV; rw [if_pos (by omega), Int.toNat_natCast]
theorem powV_zero (p a : Nat) (n : Int) (h : ¬ 0 ≤ n) (ha : a = 0) : 0 = powV p a n := by unfold powV; rw [if_neg h, if_pos ha]
theorem powV_neg (p a : Nat) (n : Int) (h : ¬ 0 ≤ n) (ha : ¬ a = 0) : fpow p (finv p a) (-n).toNat = powV p a n := by unfold powV; rw [if_neg h, if_neg ha]

set_option maxHeartbeats 400000 in
theorem pow_nat (p a n : Nat) (w : World) (hp : 2 ≤ p) (hp2 : p ≤ 2147483648) (ha : a < p) (hn : n ≤ 9223372036854775807) :
    Calls Tryd.prog 21 #[.int .i64 p, .int .i64 a, .int .i64 n] w (Ret (.int .i64 (powV p a n : Nat)) w) := by
  have HV := Lib.hid (powV_pos p a n)
  go_enter Tryd.func21, Tryd.ntmps21
  go_wp2_with fail
  refine ret_pure (fpower_any p a n _ (by omega) (by omega) ha (by omega)) ?_
  rw [HV.out]
  go_wp2_with fail
  go_ret
  exact Ret.int rfl

theorem u64_neg (n : Int) (h1 : n < 0) (h2 : -9223372036854775808 ≤ n) : IntKind.u64.wrap (-IntKind.u64.wrap n) = (((-n).toNat : Nat) : Int) := by
  simp only [IntKind.wrap, IntKind.bits, IntKind.signed]
  simp
  omega

set_option maxHeartbeats 400000 in
theorem pow_neg (p a : Nat) (n : Int) (w : World) (hp : 2 ≤ p) (hp2 : p ≤ 2147483648) (ha : a < p) (hn : n < 0) (hn2 : -9223372036854775808 ≤ n) :
    Calls Tryd.prog 21 #[.int .i64 p, .int .i64 a, .int .i64 n] w (Ret (.int .i64 (powV p a n : Nat)) w) := by
  by_cases h : a = 0
  · have HV := Lib.hid (powV_zero p a n (by omega) h)
    have t1 : ((a : Int) == 0) = true := by simp; omega
    have HA := Lib.hid h
    clear h
    go_enter Tryd.func21, Tryd.ntmps21
    go_wp2
    go_ret
    refine Ret.int ?_
    rw [← HV.out]; rfl
  · have HV := Lib.hid (powV_neg p a n (by omega) h)
    have HI := Lib.hid (inv_pos p a h)
    have t1 : ((a : Int) == 0) = false := by simp; omega
    have HA := Lib.hid h
    have hfl : finv p a < p := fpow_lt (by omega) _ _
    clear h
    go_enter Tryd.func21, Tryd.ntmps21
    go_wp2_with fail
    refine ret_pure (inverse_any p a _ hp hp2 ha) ?_
    rw [HI.out.1, HI.out.2]
    go_wp2_with fail
    rw [u64_neg n hn hn2]
    refine ret_pure (fpower_any p (finv p a) (-n).toNat _ (by omega) (by omega) hfl (by omega)) ?_
    rw [HV.out]
    go_wp2_with fail
    go_ret
    exact Ret.int rfl
theorem pow_any (p a : Nat) (n : Int) (w : World) (hp : 2 ≤ p) (hp2 : p ≤ 2147483648) (ha : a < p) (hn : -9223372036854775808 ≤ n) (hn2 : n ≤ 9223372036854775807) :
    Calls Tryd.prog 21 #[.int .i64 p, .int .i64 a, .int .i64 n] w (Ret (.int .i64 (powV p a n : Nat)) w) := by
  by_cases h : n < 0
  · exact pow_neg p a n w hp hp2 ha h hn
  · obtain ⟨n, rfl⟩ := Int.eq_ofNat_of_zero_le (show 0 ≤ n by omega)
    exact pow_nat p a n w hp hp2 ha (by omega)

/-! ### The primes of the dice -/
def primesL : List Int := [7, 2, 3, 5, 11, 13, 23, 101, 257, 65537, 1000003, 500000003]
def PrimeP (D : Nat) (R : List Int) (w : World) (e : Ending) (w' : World) : Prop :=
  ∃ p : Nat, e = .returned (.int .i64 p) ∧ PrimeN p ∧ p ≤ 500000003 ∧ ((p : Int) = nth primesL (nextV R 12).toNat) ∧ DiceAt w' D R.tail ∧ w.grownBy w' (some D)
theorem primes_ok (k : Nat) (h : k < 12) : ∃ p : Nat, (p : Int) = nth primesL k ∧ PrimeN p ∧ p ≤ 500000003 := by
  have : k = 0 ∨ k = 1 ∨ k = 2 ∨ k = 3 ∨ k = 4 ∨ k = 5 ∨ k = 6 ∨ k = 7 ∨ k = 8 ∨ k = 9 ∨ k = 10 ∨ k = 11 := by omega
  rcases this with rfl | rfl | rfl | rfl | rfl | rfl | rfl | rfl | rfl | rfl | rfl | rfl
  · exact ⟨7, rfl, prime_7, by omega⟩
  · exact ⟨2, rfl, prime_2, by omega⟩
  · exact ⟨3, rfl, prime_3, by omega⟩
  · exact ⟨5, rfl, prime_5, by omega⟩
  · exact ⟨11, rfl, prime_11, by omega⟩
  · exact ⟨13, rfl, prime_13, by omega⟩
  · exact ⟨23, rfl, prime_23, by omega⟩
  · exact ⟨101, rfl, prime_101, by omega⟩
  · exact ⟨257, rfl, prime_257, by omega⟩
  · exact ⟨65537, rfl, prime_65537, by omega⟩
  · exact ⟨1000003, rfl, prime_1000003, by omega⟩
  · exact ⟨500000003, rfl, prime_500000003, by omega⟩
set_option maxHeartbeats 400000 in
theorem prime_any (D : Nat) (R : List Int) (w : World) (h : DiceAt w D R) :
    Calls Tryd.prog 11 #[.pointer (some ⟨D, 0, none⟩)] w (PrimeP D R w) := by
  have hlt := h.lt
  go_enter Tryd.func11, Tryd.ntmps11
  go_wp2_with fail
  refine (next_any D R 12 _ (h.alloc _) (by omega)).mono ?_
  rintro e w1 ⟨rfl, hD1, hg⟩
  obtain ⟨x1, x2⟩ := nextV_range R 12 (by omega)
  have hI := (lit_ints w primesL).grown hg (fun b off e => by injection e with e; injection e with e1; omega)
  have HH := Lib.hid (And.intro hD1 (grown_trans (grown_of_below (r := some D) (below_alloc w _)) hg))
  clear hD1 hg h
  generalize hv : nextV R 12 = v at *
  have HV := Lib.hid hv
  obtain ⟨k, rfl⟩ := Int.eq_ofNat_of_zero_le x1
  have hk : k < primesL.length := by simp [primesL]; omega
  obtain ⟨p, hp, hpp, hp5⟩ := primes_ok k (by omega)
  have HP := Lib.hid hp
  have HPP := Lib.hid hpp
  obtain ⟨b, off, e, hbl, hcell⟩ := hI k hk
  injection e with e
  injection e with e1 e2
  subst e1; subst e2
  rw [Nat.zero_add, ← hp] at hcell
  clear hv hI hp hpp hk
  go_wp2_with fail
  go_ret
  exact ⟨p, rfl, HPP.out, hp5, by rw [HV.out, Int.toNat_natCast]; exact HP.out, HH.out⟩

/-! ### The sanity check -/
theorem aw1 : invV 7 5 = 3 := by decide +kernel
theorem aw2 : invE 5 = 0 := by decide +kernel
theorem aw3 : fmul 7 3 5 = 1 := by decide +kernel
theorem aw4 : validI 7 = true := by decide +kernel
theorem aw5 : validI 9 = false := by decide +kernel

set_option maxHeartbeats 400000 in
theorem awake_any (w : World) (hB : Bases w) : Calls Tryd.prog 9 #[] w (Ret (.bool true) w) := by
  have HB := Lib.hid hB
  clear hB
  have hI := inverse_any 7 5 w (by omega) (by omega) (by omega)
  rw [aw1, aw2] at hI
  have HI := Lib.hid hI
  have hM := mul_nat 7 3 5 w (by omega) (by omega) (by omega) (by omega)
  rw [aw3] at hM
  have HM := Lib.hid hM
  have hV := valid_any 7 w HB.out
  rw [aw4] at hV
  have HV := Lib.hid hV
  have hW := valid_any 9 w HB.out
  rw [aw5] at hW
  have HW := Lib.hid hW
  clear hI hM hV hW HB
  go_enter Tryd.func9, Tryd.ntmps9
  go_wp2_with fail
  refine ret_pure HI.out ?_
  go_wp2_with fail
  refine ret_pure HM.out ?_
  go_wp2_with fail
  refine ret_pure HV.out ?_
  go_wp2_with fail
  refine ret_pure HW.out ?_
  go_wp2_with fail
  go_ret
  exact Ret.bool rfl
end Go.Proofs.YthbablmgpjjphaaDoor
