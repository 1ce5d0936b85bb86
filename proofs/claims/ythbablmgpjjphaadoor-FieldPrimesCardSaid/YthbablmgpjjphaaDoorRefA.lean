/-
  The document's answers for fields: contracts on elements.
-/
import Derived.Test.YthbablmgpjjphaaDoorNats
import Derived.Test.YthbablmgpjjphaaDoorFieldInvW
namespace Go.Proofs.YthbablmgpjjphaaDoor
open Go.RowKit

set_option maxHeartbeats 400000 in
theorem refElement_any (p n : Int) (w : World) (hp : 1 ≤ p) (hp2 : p ≤ 2147483648) :
    Calls Tryd.prog 26 #[.int .i64 p, .int .i64 n] w (Ret (.int .i64 (modI n p)) w) := by
  have h1 := Int.tmod_lt_of_pos n (b := p) (by omega)
  have h2 := Int.lt_tmod_of_pos n (b := p) (by omega)
  have h3 : ¬ p = 0 := by omega
  have h4 : (p == 0) = false := by simp; omega
  have HE := Lib.hid (show (n.tmod p + p) % p = modI n p by
    rw [Int.add_emod_right]; exact modI_tmod n p (by omega))
  go_enter Tryd.func26, Tryd.ntmps26
  go_wp2
  go_ret
  exact Ret.int HE.out
set_option maxHeartbeats 400000 in
theorem refAdd_nat (p a b : Nat) (w : World) (hp : 1 ≤ p) (hp2 : p ≤ 2147483648) (ha : a < p) (hb : b < p) :
    Calls Tryd.prog 29 #[.int .i64 p, .int .i64 a, .int .i64 b] w (Ret (.int .i64 (fadd p a b : Nat)) w) := by
  have h3 : ¬ (p : Int) = 0 := by omega
  have h4 : ((p : Int) == 0) = false := by simp; omega
  have e1 : IntKind.i64.wrap ((a : Int) + b) = (a : Int) + b := IntWalk.i64_in _ (by omega)
  have e2 : ((a : Int) + b).tmod p = (fadd p a b : Nat) := by rw [Int.tmod_eq_emod_of_nonneg (by omega)]; rfl
  have hl := fadd_lt hp a b
  go_enter Tryd.func29, Tryd.ntmps29
  go_wp2
  go_ret
  exact Ret.int rfl
set_option maxHeartbeats 400000 in
theorem refSub_nat (p a b : Nat) (w : World) (hp : 1 ≤ p) (hp2 : p ≤ 2147483648) (ha : a < p) (hb : b < p) :
    Calls Tryd.prog 30 #[.int .i64 p, .int .i64 a, .int .i64 b] w (Ret (.int .i64 (fsub p a b : Nat)) w) := by
  have h3 : ¬ (p : Int) = 0 := by omega
  have h4 : ((p : Int) == 0) = false := by simp; omega
  have e1 : IntKind.i64.wrap ((a : Int) - b) = (a : Int) - b := IntWalk.i64_in _ (by omega)
  have e3 : IntKind.i64.wrap ((a : Int) - b + p) = (a : Int) - b + p := IntWalk.i64_in _ (by omega)
  have e2 : ((a : Int) - b + p).tmod p = (fsub p a b : Nat) := by
    rw [Int.tmod_eq_emod_of_nonneg (by omega), show (a : Int) - b + p = ((a + (p - b) : Nat) : Int) by omega]; rfl
  have hl := fsub_lt hp a b
  go_enter Tryd.func30, Tryd.ntmps30
  go_wp2
  go_ret
  exact Ret.int rfl
set_option maxHeartbeats 400000 in
theorem refMul_nat (p a b : Nat) (w : World) (hp : 1 ≤ p) (hp2 : p ≤ 2147483648) (ha : a < p) (hb : b < p) :
    Calls Tryd.prog 31 #[.int .i64 p, .int .i64 a, .int .i64 b] w (Ret (.int .i64 (fmul p a b : Nat)) w) := by
  have h3 : ¬ (p : Int) = 0 := by omega
  have h4 : ((p : Int) == 0) = false := by simp; omega
  have hbd := mulN_bound ha hb hp2
  have e0 : (a : Int) * b = (a * b : Nat) := by push_cast; rfl
  have e1 : IntKind.i64.wrap ((a : Int) * b) = (a : Int) * b := IntWalk.i64_in _ (by omega)
  have e2 : ((a : Int) * b).tmod p = (fmul p a b : Nat) := by rw [e0, Int.tmod_eq_emod_of_nonneg (by omega)]; rfl
  have hl := fmul_lt hp a b
  clear e0
  go_enter Tryd.func31, Tryd.ntmps31
  go_wp2
  go_ret
  exact Ret.int rfl

/-! ### Powers -/
/-- The exponent that the document's power reduces to. -/
def redE (p : Nat) (n : Int) : Nat := (n % ((p - 1 : Nat) : Int)).toNat
theorem pow_red {p x : Nat} (hp : PrimeN p) (hx : x < p) (h0 : ¬ x = 0) (n : Int) : fpow p x (redE p n) = powV p x n := by
  have h2 := hp.1
  have hper : ∀ j k : Nat, fpow p x ((p - 1) * j + k) = fpow p x k := fun j k => by
    have h1 : x ^ (p - 1) % p = 1 := flt hp (not_dvd_elem hx h0)
    unfold fpow
    rw [Nat.pow_add, Nat.pow_mul, Nat.mul_mod, Nat.pow_mod, h1, Nat.one_pow, Nat.mod_eq_of_lt (show 1 < p by omega), Nat.one_mul, Nat.mod_mod]
  by_cases hn : 0 ≤ n
  · obtain ⟨n, rfl⟩ := Int.eq_ofNat_of_zero_le hn
    rw [← powV_pos]
    have : redE p (n : Int) = n % (p - 1) := by unfold redE; rw [← Int.natCast_emod, Int.toNat_natCast]
    rw [this]
    conv => rhs; rw [← Nat.div_add_mod n (p - 1)]
    exact (hper _ _).symm
  · rw [← powV_neg p x n hn h0]
    obtain ⟨m, hm⟩ : ∃ m : Nat, n = -(m : Int) := ⟨(-n).toNat, by omega⟩
    subst hm
    rw [show (-(-(m : Int))).toNat = m by omega]
    -- x^(p-2)^m
    have e1 : fpow p (finv p x) m = fpow p x ((p - 2) * m) := by
      unfold fpow finv fpow; rw [← Nat.pow_mod, Nat.pow_mul]
    rw [e1]
    have hq : ∃ j : Nat, (p - 2) * m = (p - 1) * j + redE p (-(m : Int)) := by
      have hr := Int.emod_nonneg (-(m : Int)) (b := ((p - 1 : Nat) : Int)) (by omega)
      have hd := Int.emod_add_mul_ediv (-(m : Int)) ((p - 1 : Nat) : Int)
      have hz : (((p - 2) * m : Nat) : Int) = ((p - 1 : Nat) : Int) * m + -(m : Int) := by
        rw [Int.natCast_mul, show ((p - 2 : Nat) : Int) = ((p - 1 : Nat) : Int) - 1 by omega, Int.sub_mul]; omega
      have hz2 : (((p - 2) * m : Nat) : Int) = ((p - 1 : Nat) : Int) * ((m : Int) + -(m : Int) / ((p - 1 : Nat) : Int)) + (redE p (-(m : Int)) : Nat) := by
        rw [hz, Int.mul_add]; unfold redE; rw [Int.toNat_of_nonneg hr]; omega
      have hjn : 0 ≤ (m : Int) + -(m : Int) / ((p - 1 : Nat) : Int) := by
        have : -(m : Int) ≤ -(m : Int) / ((p - 1 : Nat) : Int) := by
          rw [Int.le_ediv_iff_mul_le (by omega)]
          have : (m : Int) * 1 ≤ (m : Int) * ((p - 1 : Nat) : Int) := Int.mul_le_mul_of_nonneg_left (by omega) (by omega)
          rw [Int.neg_mul]; omega
        omega
      obtain ⟨j, hj⟩ := Int.eq_ofNat_of_zero_le hjn
      refine ⟨j, ?_⟩
      rw [hj] at hz2
      have : (((p - 2) * m : Nat) : Int) = (((p - 1) * j + redE p (-(m : Int)) : Nat) : Int) := by rw [hz2]; push_cast; rfl
      omega
    obtain ⟨j, hj⟩ := hq
    rw [hj, hper]
end Go.Proofs.YthbablmgpjjphaaDoor
