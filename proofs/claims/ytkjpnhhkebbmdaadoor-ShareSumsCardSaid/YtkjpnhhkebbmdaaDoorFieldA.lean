/-
  Fields: contracts of the program's functions on elements.
-/
import Derived.Test.YtkjpnhhkebbmdaaDoorKit2
import Derived.Test.YtkjpnhhkebbmdaaDoorNum
import Derived.WalkSmall
namespace Go.Proofs.YtkjpnhhkebbmdaaDoor
open Go.RowKit

set_option maxHeartbeats 400000 in
theorem modulo_any (p n : Int) (w : World) (hp : p ≤ 4611686018427387904) :
    Calls Tryd.prog 84 #[.int .i64 p, .int .i64 n] w (Ret (.int .i64 (modI n p)) w) := by
  by_cases h : p < 1
  · go_enter Tryd.func84, Tryd.ntmps84
    go_wp2
    go_ret
    exact Ret.int (modI_lt n p h).symm
  · have h1 := Int.tmod_lt_of_pos n (b := p) (by omega)
    have h2 := Int.lt_tmod_of_pos n (b := p) (by omega)
    have HE := Lib.hid (modI_tmod n p h)
    by_cases h0 : n.tmod p < 0
    · have HR := Lib.hid (show n.tmod p + p = modI n p by
        rw [← HE.out, ← Int.add_emod_right, Int.emod_eq_of_lt (by omega) (by omega)])
      go_enter Tryd.func84, Tryd.ntmps84
      go_wp2
      go_ret
      exact Ret.int HR.out
    · have HR := Lib.hid (show n.tmod p = modI n p by
        rw [← HE.out, Int.emod_eq_of_lt (by omega) (by omega)])
      go_enter Tryd.func84, Tryd.ntmps84
      go_wp2
      go_ret
      exact Ret.int HR.out

set_option maxHeartbeats 400000 in
theorem element_any (p n : Int) (w : World) (hp : p ≤ 4611686018427387904) :
    Calls Tryd.prog 75 #[.int .i64 p, .int .i64 n] w (Ret (.int .i64 (modI n p)) w) := by
  go_enter Tryd.func75, Tryd.ntmps75
  go_wp2_with fail
  refine (modulo_any p n _ hp).mono ?_
  rintro e w1 ⟨rfl, rfl⟩
  go_wp2
  go_ret
  exact Ret.int rfl
set_option maxHeartbeats 400000 in
theorem add_any (p a b : Int) (w : World) (hp : p ≤ 4611686018427387904) (h : -9223372036854775808 ≤ a + b ∧ a + b ≤ 9223372036854775807) :
    Calls Tryd.prog 70 #[.int .i64 p, .int .i64 a, .int .i64 b] w (Ret (.int .i64 (modI (a + b) p)) w) := by
  obtain ⟨h1, h2⟩ := h
  go_enter Tryd.func70, Tryd.ntmps70
  go_wp2_with fail
  refine (modulo_any p (a + b) _ hp).mono ?_
  rintro e w1 ⟨rfl, rfl⟩
  go_wp2
  go_ret
  exact Ret.int rfl
set_option maxHeartbeats 400000 in
theorem sub_any (p a b : Int) (w : World) (hp : p ≤ 4611686018427387904) (h : -9223372036854775808 ≤ a - b ∧ a - b ≤ 9223372036854775807) :
    Calls Tryd.prog 77 #[.int .i64 p, .int .i64 a, .int .i64 b] w (Ret (.int .i64 (modI (a - b) p)) w) := by
  obtain ⟨h1, h2⟩ := h
  go_enter Tryd.func77, Tryd.ntmps77
  go_wp2_with fail
  refine (modulo_any p (a - b) _ hp).mono ?_
  rintro e w1 ⟨rfl, rfl⟩
  go_wp2
  go_ret
  exact Ret.int rfl
set_option maxHeartbeats 400000 in
theorem mul_any (p a b : Int) (w : World) (hp : p ≤ 4611686018427387904) (h : -9223372036854775808 ≤ a * b ∧ a * b ≤ 9223372036854775807) :
    Calls Tryd.prog 71 #[.int .i64 p, .int .i64 a, .int .i64 b] w (Ret (.int .i64 (modI (a * b) p)) w) := by
  obtain ⟨h1, h2⟩ := h
  go_enter Tryd.func71, Tryd.ntmps71
  go_wp2_with fail
  refine (modulo_any p (a * b) _ hp).mono ?_
  rintro e w1 ⟨rfl, rfl⟩
  go_wp2
  go_ret
  exact Ret.int rfl

/-! ### Elements as natural numbers -/
theorem modI_nat (n p : Nat) (hp : 1 ≤ p) : modI (n : Int) (p : Int) = ((n % p : Nat) : Int) := by
  rw [modI_ge _ _ (by omega)]; rfl
def fadd (p a b : Nat) : Nat := (a + b) % p
def fsub (p a b : Nat) : Nat := (a + (p - b)) % p
def fmul (p a b : Nat) : Nat := a * b % p
def fpow (p a n : Nat) : Nat := a ^ n % p
def fone (p : Nat) : Nat := 1 % p
theorem fadd_lt {p : Nat} (hp : 1 ≤ p) (a b : Nat) : fadd p a b < p := Nat.mod_lt _ hp
theorem fsub_lt {p : Nat} (hp : 1 ≤ p) (a b : Nat) : fsub p a b < p := Nat.mod_lt _ hp
theorem fmul_lt {p : Nat} (hp : 1 ≤ p) (a b : Nat) : fmul p a b < p := Nat.mod_lt _ hp
theorem fpow_lt {p : Nat} (hp : 1 ≤ p) (a n : Nat) : fpow p a n < p := Nat.mod_lt _ hp
theorem fone_lt {p : Nat} (hp : 1 ≤ p) : fone p < p := Nat.mod_lt _ hp
theorem mulN_bound {a b p : Nat} (ha : a < p) (hb : b < p) (hp : p ≤ 2147483648) : a * b ≤ 4611686018427387904 := by
  have := Nat.mul_le_mul (Nat.le_trans (Nat.le_of_lt ha) hp) (Nat.le_trans (Nat.le_of_lt hb) hp); omega
theorem mul_nat (p a b : Nat) (w : World) (hp : 1 ≤ p) (hp2 : p ≤ 2147483648) (ha : a < p) (hb : b < p) :
    Calls Tryd.prog 71 #[.int .i64 p, .int .i64 a, .int .i64 b] w (Ret (.int .i64 (fmul p a b : Nat)) w) := by
  have h := mul_any p a b w (by omega) (by have := mulN_bound ha hb hp2; rw [← Int.natCast_mul]; omega)
  rw [← Int.natCast_mul, modI_nat _ _ hp] at h
  exact h

theorem pow_mod_mul (p o x k : Nat) : o * (x * x % p) ^ k % p = o * x ^ (2 * k) % p := by
  rw [Nat.mul_mod, Nat.pow_mod, Nat.mod_mod, ← Nat.pow_mod, ← Nat.mul_mod, Nat.pow_mul, Nat.pow_two]
theorem pow_even (p o x n : Nat) (h : ¬ n % 2 = 1) : o * (x * x % p) ^ (n / 2) % p = o * x ^ n % p := by
  rw [pow_mod_mul, show 2 * (n / 2) = n by omega]
theorem pow_odd (p o x n : Nat) (h : n % 2 = 1) : o * x % p * (x * x % p) ^ (n / 2) % p = o * x ^ n % p := by
  rw [pow_mod_mul, Nat.mul_mod, Nat.mod_mod, ← Nat.mul_mod, Nat.mul_assoc, Nat.mul_comm x, ← Nat.pow_succ, show (2 * (n / 2)).succ = n by omega]

set_option maxHeartbeats 400000 in
theorem fpower_any (p a N : Nat) (w : World) (hp : 1 ≤ p) (hp2 : p ≤ 2147483648) (ha : a < p) (hN : N < 18446744073709551616) :
    Calls Tryd.prog 80 #[.int .i64 p, .int .i64 a, .int .u64 N] w (Ret (.int .i64 (fpow p a N : Nat)) w) := by
  have h1p : (1 : Int) ≤ p := by omega
  go_enter Tryd.func80, Tryd.ntmps80
  go_wp2_with fail
  refine (modulo_any p 1 _ (by omega)).mono ?_
  rintro e w1 ⟨rfl, rfl⟩
  rw [show modI 1 (p : Int) = (fone p : Nat) from modI_nat 1 p hp]
  go_wp2_with fail
  go_loop [1, 2, 7] (fun x n o => ∃ x' n' o' : Nat, x = .int .i64 x' ∧ n = .int .u64 n' ∧ o = .int .i64 o' ∧ x' < p ∧ o' < p ∧ n' < 18446744073709551616 ∧ o' * x' ^ n' % p = fpow p a N) (fun _ n _ => (intOf n).toNat)
  case atStart => exact ⟨a, N, fone p, rfl, rfl, rfl, ha, fone_lt hp, hN, by unfold fone fpow; rw [Nat.mul_mod, Nat.mod_mod, ← Nat.mul_mod, Nat.one_mul]⟩
  case round =>
    obtain ⟨x, n, o, rfl, rfl, rfl, hx, ho, hn, hinv⟩ := hrel
    have HI := Lib.hid hinv
    clear hinv
    by_cases hn0 : 0 < n
    · have hbit := and_one_u64 (n : Int) (by omega) (by omega)
      by_cases hodd : n % 2 = 1
      · have hb : (bits BinOp.and IntKind.u64 (n : Int) 1 == 1) = true := by rw [hbit]; simp; omega
        clear hbit
        go_wp2_with fail
        refine ret_pure (mul_nat p o x _ hp hp2 ho hx) ?_
        go_wp2_with fail
        refine ret_pure (mul_nat p x x _ hp hp2 hx hx) ?_
        go_wp2_with fail
        go_round
        case rel =>
          refine ⟨fmul p x x, n / 2, fmul p o x, rfl, by go_num, rfl, fmul_lt hp _ _, fmul_lt hp _ _, by omega, ?_⟩
          rw [← HI.out]; exact pow_odd p o x n hodd
        case measure => simp [intOf]; omega
      · have hb : (bits BinOp.and IntKind.u64 (n : Int) 1 == 1) = false := by rw [hbit]; simp; omega
        clear hbit
        go_wp2_with fail
        refine ret_pure (mul_nat p x x _ hp hp2 hx hx) ?_
        go_wp2_with fail
        go_round
        case rel =>
          refine ⟨fmul p x x, n / 2, o, rfl, by go_num, rfl, fmul_lt hp _ _, ho, by omega, ?_⟩
          rw [← HI.out]; exact pow_even p o x n hodd
        case measure => simp [intOf]; omega
    · go_wp2_with fail
      go_ret
      refine Ret.int ?_
      have := HI.out
      rw [show n = 0 by omega, Nat.pow_zero, Nat.mul_one, Nat.mod_eq_of_lt ho] at this
      rw [this]

theorem add_nat (p a b : Nat) (w : World) (hp : 1 ≤ p) (hp2 : p ≤ 2147483648) (ha : a < p) (hb : b < p) :
    Calls Tryd.prog 70 #[.int .i64 p, .int .i64 a, .int .i64 b] w (Ret (.int .i64 (fadd p a b : Nat)) w) := by
  have h := add_any p a b w (by omega) (by omega)
  rw [← Int.natCast_add, modI_nat _ _ hp] at h
  exact h
theorem sub_nat (p a b : Nat) (w : World) (hp : 1 ≤ p) (hp2 : p ≤ 2147483648) (ha : a < p) (hb : b < p) :
    Calls Tryd.prog 77 #[.int .i64 p, .int .i64 a, .int .i64 b] w (Ret (.int .i64 (fsub p a b : Nat)) w) := by
  have h := sub_any p a b w (by omega) (by omega)
  have e : modI ((a : Int) - b) p = (fsub p a b : Nat) := by
    rw [modI_ge _ _ (by omega), ← Int.add_emod_right, show (a : Int) - b + p = ((a + (p - b) : Nat) : Int) by omega]; rfl
  rw [e] at h
  exact h
theorem element_nat (p n : Nat) (w : World) (hp : 1 ≤ p) (hp2 : p ≤ 2147483648) :
    Calls Tryd.prog 75 #[.int .i64 p, .int .i64 n] w (Ret (.int .i64 (n % p : Nat)) w) := by
  have h := element_any p n w (by omega)
  rw [modI_nat _ _ hp] at h
  exact h
end Go.Proofs.YtkjpnhhkebbmdaaDoor
