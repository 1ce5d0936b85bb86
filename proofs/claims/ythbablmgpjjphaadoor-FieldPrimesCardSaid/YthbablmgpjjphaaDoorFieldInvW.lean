/-
  FieldInverses: the walk.
-/
import Derived.Test.YthbablmgpjjphaaDoorFieldLawsW
namespace Go.Proofs.YthbablmgpjjphaaDoor
open Go.RowKit

theorem fone_eq {p : Nat} (h : 2 ≤ p) : fone p = 1 := Nat.mod_eq_of_lt (by omega)
theorem not_dvd_elem {p x : Nat} (hx : x < p) (h0 : ¬ x = 0) : ¬ p ∣ x := fun h => by have := Nat.le_of_dvd (by omega) h; omega
theorem mul_finv {p x : Nat} (hp : PrimeN p) (hx : x < p) (h0 : ¬ x = 0) : fmul p x (finv p x) = fone p := by
  have h := flt hp (not_dvd_elem hx h0)
  have := hp.1
  unfold fmul finv fpow
  rw [Nat.mul_mod_mod, Nat.mul_comm, ← Nat.pow_succ, show (p - 2).succ = p - 1 by omega, h, fone_eq this]
theorem pow_order {p x : Nat} (hp : PrimeN p) (hx : x < p) (h0 : ¬ x = 0) : powV p x ((p - 1 : Nat) : Int) = fone p := by
  rw [← powV_pos, fone_eq hp.1]; exact flt hp (not_dvd_elem hx h0)
theorem pow_add_law {p x : Nat} (m n : Nat) : fmul p (powV p x (m : Int)) (powV p x (n : Int)) = powV p x ((m + n : Nat) : Int) := by
  rw [← powV_pos, ← powV_pos, ← powV_pos]
  unfold fmul fpow
  rw [← Nat.mul_mod, Nat.pow_add]
theorem pow_inv_law {p x : Nat} (hp : PrimeN p) (hx : x < p) (h0 : ¬ x = 0) (m : Nat) : fmul p (powV p x (m : Int)) (powV p x (-(m : Int))) = fone p := by
  have h2 := hp.1
  by_cases hm : m = 0
  · subst hm
    rw [show -((0 : Nat) : Int) = ((0 : Nat) : Int) from rfl, ← powV_pos, fone_eq h2]
    unfold fmul fpow
    simp only [Nat.pow_zero]
    rw [Nat.mod_eq_of_lt (show 1 < p by omega)]; exact Nat.mod_eq_of_lt (by omega)
  · rw [← powV_pos, ← powV_neg p x _ (by omega) h0, show (-(-(m : Int))).toNat = m by omega]
    have h := mul_finv hp hx h0
    rw [fone_eq h2] at *
    unfold fmul at h
    unfold fmul fpow
    rw [← Nat.mul_mod, ← Nat.mul_pow, Nat.pow_mod, h, Nat.one_pow]; exact Nat.mod_eq_of_lt (by omega)
theorem powV_lt {p : Nat} (hp : 1 ≤ p) (x : Nat) (n : Int) : powV p x n < p := by
  unfold powV
  split
  · exact fpow_lt hp _ _
  · split
    · omega
    · exact fpow_lt hp _ _

set_option maxRecDepth 100000 in
set_option maxHeartbeats 2000000 in
theorem fieldInverses_walk (A0 : Option Addr) (L0 : List Int) (c0 : Nat) (a m n : Int) (w : World) (hB : Bases w) (hl0 : L0.length ≤ maxLen) (hI0 : IntsAt w A0 L0)
    (_ : ∀ n ∈ L0, -9223372036854775808 ≤ n ∧ n ≤ 9223372036854775807) (_ : -9223372036854775808 ≤ a ∧ a ≤ 9223372036854775807) (hm : 0 ≤ m ∧ m ≤ 65535) (hn : 0 ≤ n ∧ n ≤ 65535) :
    Calls Tryd.prog 5 #[.slice A0 L0.length c0, .int .i64 a, .int .u16 m, .int .u16 n] w (RetB (.bool true) w) := by
  obtain ⟨m, rfl⟩ := Int.eq_ofNat_of_zero_le hm.1
  obtain ⟨n, rfl⟩ := Int.eq_ofNat_of_zero_le hn.1
  have hm2 : m ≤ 65535 := by omega
  have hn2 : n ≤ 65535 := by omega
  clear hm hn
  by_cases hlight : (L0.length : Int) ≤ 500
  · have hL := light_any A0 L0.length c0 w
    rw [decide_eq_true hlight] at hL
    have HLt := Lib.hid hL
    have HB := Lib.hid hB
    clear hL hlight hB
    go_enter Tryd.func5, Tryd.ntmps5
    go_wp2_with fail
    refine ret_pure HLt.out ?_
    clear HLt
    go_wp2_with fail
    refine (roll_any A0 L0 c0 _ hl0 hI0).mono ?_
    rintro e w1 ⟨D, rfl, hDs, hD, hb1⟩
    clear hI0
    go_wp2_with fail
    refine (prime_any D L0 _ hD).mono ?_
    rintro e w2 ⟨p, rfl, hpp, hp5, -, hD2, hg2⟩
    have hbw2 : Below w.heap.size w w2 := hb1.trans (grown_below hg2 hDs hb1.size)
    have HB2 := Lib.hid (HB.out.keep hbw2)
    have HPP := Lib.hid hpp
    have h2 := hpp.1
    have h1 : 1 ≤ p := by omega
    have hp2 : p ≤ 2147483648 := by omega
    clear hg2 hD hb1 hD2 hpp
    obtain ⟨x, hx, hxp⟩ := elem_of a h1
    have HX := Lib.hid hx
    clear hx
    have m0 : (1 : Int).tmod (p : Int) = (fone p : Nat) := by rw [Int.tmod_eq_emod_of_nonneg (by omega)]; rfl
    have hf1 := fone_lt h1
    have m1 : IntKind.i64.wrap ((fone p : Nat) : Int) = (fone p : Nat) := IntWalk.i64_in _ (by omega)
    have m2 : ((p : Int) == 0) = false := by simp; omega
    have m3 : ¬ (p : Int) = 0 := by omega
    go_wp2_with fail
    refine ret_pure (mod_any a p _ (by omega)) ?_
    rw [HX.out]
    go_wp2_with fail
    refine ret_pure (inverse_any p x _ h2 hp2 hxp) ?_
    by_cases h0 : x = 0
    · have HI := Lib.hid (inv_zero p x h0)
      have HX0 := Lib.hid h0
      have t0 : ((x : Int) == 0) = true := by simp; omega
      have t1 := beq_nat (show powV p 0 (0 : Int) = fone p from (powV_pos p 0 0).symm)
      rw [HI.out.1, HI.out.2]
      clear h0
      go_wp2_with fail
      go_quiet ((first
        | (go_at_call 21; exact Calls.quiet_of_same (pow_any p 0 0 _ h2 hp2 (by omega) (by omega) (by omega)))
        | (go_at_call 9; exact Calls.quiet_of_same (awake_any _ HB2.out))))
      go_wp2_with fail
      go_ret
      exact RetB.bool rfl (below_drewN hbw2 _)
    · have HI := Lib.hid (inv_pos p x h0)
      have t0 : ((x : Int) == 0) = false := by simp; omega
      have t1 := beq_nat (mul_finv HPP.out hxp h0)
      have t2 := beq_nat (pow_order HPP.out hxp h0)
      have t3 := beq_nat (show fmul p (powV p x (m : Int)) (powV p x (n : Int)) = powV p x ((m : Int) + (n : Int)) from pow_add_law m n)
      have t4 := beq_nat (pow_inv_law HPP.out hxp h0 m)
      have e1 : IntKind.i64.wrap ((p : Int) - 1) = ((p - 1 : Nat) : Int) := by rw [IntWalk.i64_in _ (by omega)]; omega
      have e2 : IntKind.i64.wrap ((m : Int) + (n : Int)) = (m : Int) + (n : Int) := IntWalk.i64_in _ (by omega)
      have e3 : IntKind.i64.wrap (-(m : Int)) = -(m : Int) := IntWalk.i64_in _ (by omega)
      have hfl : finv p x < p := fpow_lt h1 _ _
      rw [HI.out.1, HI.out.2]
      clear h0
      go_wp2_with fail
      refine wp_region_quiet_lit (by kernel_rfl) (by kernel_rfl) ?_
      repeat (go_big_quiet_step (fail))
      go_big_quiet_want
      go_big_quiet_op
      go_big_quiet_call (exact Calls.quiet_of_same (mul_nat p x (finv p x) _ h1 hp2 hxp hfl))
      repeat (go_big_quiet_step (fail))
      go_big_quiet_want
      go_big_quiet_op
      go_big_quiet_call (exact Calls.quiet_of_same (pow_any p x ((p - 1 : Nat) : Int) _ h2 hp2 hxp (by omega) (by omega)))
      repeat (go_big_quiet_step (fail))
      go_big_quiet_want
      go_big_quiet_op
      go_big_quiet_call (exact Calls.quiet_of_same (pow_any p x (m : Int) _ h2 hp2 hxp (by omega) (by omega)))
      repeat (go_big_quiet_step (fail))
      go_big_quiet_want
      go_big_quiet_op
      go_big_quiet_call (exact Calls.quiet_of_same (pow_any p x (n : Int) _ h2 hp2 hxp (by omega) (by omega)))
      repeat (go_big_quiet_step (fail))
      go_big_quiet_want
      go_big_quiet_op
      go_big_quiet_call (exact Calls.quiet_of_same (mul_nat p (powV p x (m : Int)) (powV p x (n : Int)) _ h1 hp2 (powV_lt h1 _ _) (powV_lt h1 _ _)))
      repeat (go_big_quiet_step (fail))
      go_big_quiet_want
      go_big_quiet_op
      go_big_quiet_call (exact Calls.quiet_of_same (pow_any p x ((m : Int) + (n : Int)) _ h2 hp2 hxp (by omega) (by omega)))
      repeat (go_big_quiet_step (fail))
      go_big_quiet_want
      go_big_quiet_op
      go_big_quiet_call (exact Calls.quiet_of_same (pow_any p x (m : Int) _ h2 hp2 hxp (by omega) (by omega)))
      repeat (go_big_quiet_step (fail))
      go_big_quiet_want
      go_big_quiet_op
      go_big_quiet_call (exact Calls.quiet_of_same (pow_any p x (-(m : Int)) _ h2 hp2 hxp (by omega) (by omega)))
      repeat (go_big_quiet_step (fail))
      go_big_quiet_want
      go_big_quiet_op
      go_big_quiet_call (exact Calls.quiet_of_same (mul_nat p (powV p x (m : Int)) (powV p x (-(m : Int))) _ h1 hp2 (powV_lt h1 _ _) (powV_lt h1 _ _)))
      repeat (go_big_quiet_step (fail))
      go_big_quiet_want
      go_big_quiet_op
      go_big_quiet_call (exact Calls.quiet_of_same (awake_any _ HB2.out))
      repeat (go_big_quiet_step (fail))
      refine wpQuiet_nil ?_
      rintro _ ⟨nq, rfl⟩
      go_wp2_with fail
      go_ret
      exact RetB.bool rfl (below_drewN hbw2 _)
  · have hL := light_any A0 L0.length c0 w
    rw [decide_eq_false hlight] at hL
    have HLt := Lib.hid hL
    have HB := Lib.hid hB
    clear hL hB
    go_enter Tryd.func5, Tryd.ntmps5
    go_wp2_with fail
    refine ret_pure HLt.out ?_
    go_wp2_with fail
    refine ret_pure (awake_any _ HB.out) ?_
    go_wp2
    go_ret
    exact RetB.bool rfl (Below.refl _ _)
end Go.Proofs.YthbablmgpjjphaaDoor
