/-
  FieldLaws: the walk.
-/
import Derived.Test.YthbablmgpjjphaaDoorFieldX
namespace Go.Proofs.YthbablmgpjjphaaDoor
open Go.RowKit

theorem elem_of (a : Int) {p : Nat} (hp : 1 ≤ p) : ∃ x : Nat, modI a p = (x : Int) ∧ x < p := by
  have h := modI_range a p (by omega)
  exact ⟨(modI a p).toNat, by omega, by omega⟩
theorem beq_nat {x y : Nat} (h : x = y) : (((x : Nat) : Int) == ((y : Nat) : Int)) = true := by simp [h]
theorem fadd_comm (p x y : Nat) : fadd p x y = fadd p y x := by unfold fadd; rw [Nat.add_comm]
theorem fmul_comm (p x y : Nat) : fmul p x y = fmul p y x := by unfold fmul; rw [Nat.mul_comm]
theorem fadd_assoc (p x y z : Nat) : fadd p (fadd p x y) z = fadd p x (fadd p y z) := by
  unfold fadd; rw [Nat.mod_add_mod, Nat.add_mod_mod, Nat.add_assoc]
theorem fmul_assoc (p x y z : Nat) : fmul p (fmul p x y) z = fmul p x (fmul p y z) := by
  unfold fmul; rw [Nat.mod_mul_mod, Nat.mul_mod_mod, Nat.mul_assoc]
theorem fmul_add (p x y z : Nat) : fmul p x (fadd p y z) = fadd p (fmul p x y) (fmul p x z) := by
  unfold fmul fadd; rw [Nat.mul_mod_mod, ← Nat.add_mod, Nat.mul_add]
theorem fsub_fadd (p x y : Nat) (hx : x < p) (hy : y < p) : fsub p (fadd p x y) y = x := by
  unfold fsub fadd; rw [Nat.mod_add_mod, show x + y + (p - y) = x + p by omega, Nat.add_mod_right, Nat.mod_eq_of_lt hx]

set_option maxRecDepth 100000 in
set_option maxHeartbeats 2000000 in
theorem fieldLaws_walk (A0 : Option Addr) (L0 : List Int) (c0 : Nat) (a b c : Int) (w : World) (hB : Bases w) (hl0 : L0.length ≤ maxLen) (hI0 : IntsAt w A0 L0) (_ : ∀ n ∈ L0, -9223372036854775808 ≤ n ∧ n ≤ 9223372036854775807) (_ : -9223372036854775808 ≤ a ∧ a ≤ 9223372036854775807) (_ : -9223372036854775808 ≤ b ∧ b ≤ 9223372036854775807) (_ : -9223372036854775808 ≤ c ∧ c ≤ 9223372036854775807) :
    Calls Tryd.prog 3 #[.slice A0 L0.length c0, .int .i64 a, .int .i64 b, .int .i64 c] w (RetB (.bool true) w) := by
  by_cases hlight : (L0.length : Int) ≤ 500
  · have hL := light_any A0 L0.length c0 w
    rw [decide_eq_true hlight] at hL
    have HLt := Lib.hid hL
    have HB := Lib.hid hB
    clear hL hlight hB
    go_enter Tryd.func3, Tryd.ntmps3
    go_wp2_with fail
    refine ret_pure HLt.out ?_
    clear HLt
    go_wp2_with fail
    refine (roll_any A0 L0 c0 _ hl0 hI0).mono ?_
    rintro e w1 ⟨D, rfl, hDs, hD, hb1⟩
    clear hI0
    go_wp2_with fail
    refine (prime_any D L0 _ hD).mono ?_
    rintro e w2 ⟨p, rfl, hpp, hp5, -, hD2, hg2⟩
    have hbw2 : Below w.heap.size w w2 := hb1.trans (grown_below hg2 hDs hb1.size)
    have HB2 := Lib.hid (HB.out.keep hbw2)
    have h2 := hpp.1
    have h1 : 1 ≤ p := by omega
    have hp2 : p ≤ 2147483648 := by omega
    clear hg2 hD hb1 hD2 hpp
    obtain ⟨x, hx, hxp⟩ := elem_of a h1
    obtain ⟨y, hy, hyp⟩ := elem_of b h1
    obtain ⟨z, hz, hzp⟩ := elem_of c h1
    have HX := Lib.hid hx
    have HY := Lib.hid hy
    have HZ := Lib.hid hz
    clear hx hy hz
    have t1 := beq_nat (fadd_comm p x y)
    have t2 := beq_nat (fadd_assoc p x y z)
    have t3 := beq_nat (fsub_fadd p x y hxp hyp)
    have t4 := beq_nat (fmul_comm p x y)
    have t5 := beq_nat (fmul_assoc p x y z)
    have t6 := beq_nat (fmul_add p x y z)
    go_wp2_with fail
    refine ret_pure (mod_any a p _ (by omega)) ?_
    rw [HX.out]
    go_wp2_with fail
    refine ret_pure (mod_any b p _ (by omega)) ?_
    rw [HY.out]
    go_wp2_with fail
    refine ret_pure (mod_any c p _ (by omega)) ?_
    rw [HZ.out]
    go_wp2_with fail
    refine ret_pure (add_nat p x y _ h1 hp2 hxp hyp) ?_
    go_wp2_with fail
    refine ret_pure (add_nat p y x _ h1 hp2 hyp hxp) ?_
    go_wp2_with fail
    refine ret_pure (add_nat p x y _ h1 hp2 hxp hyp) ?_
    go_wp2_with fail
    refine ret_pure (add_nat p (fadd p x y) z _ h1 hp2 (fadd_lt h1 _ _) hzp) ?_
    go_wp2_with fail
    refine ret_pure (add_nat p y z _ h1 hp2 hyp hzp) ?_
    go_wp2_with fail
    refine ret_pure (add_nat p x (fadd p y z) _ h1 hp2 hxp (fadd_lt h1 _ _)) ?_
    go_wp2_with fail
    refine ret_pure (add_nat p x y _ h1 hp2 hxp hyp) ?_
    go_wp2_with fail
    refine ret_pure (sub_nat p (fadd p x y) y _ h1 hp2 (fadd_lt h1 _ _) hyp) ?_
    go_wp2_with fail
    refine ret_pure (mul_nat p x y _ h1 hp2 hxp hyp) ?_
    go_wp2_with fail
    refine ret_pure (mul_nat p y x _ h1 hp2 hyp hxp) ?_
    go_wp2_with fail
    refine ret_pure (mul_nat p x y _ h1 hp2 hxp hyp) ?_
    go_wp2_with fail
    refine ret_pure (mul_nat p (fmul p x y) z _ h1 hp2 (fmul_lt h1 _ _) hzp) ?_
    go_wp2_with fail
    refine ret_pure (mul_nat p y z _ h1 hp2 hyp hzp) ?_
    go_wp2_with fail
    refine ret_pure (mul_nat p x (fmul p y z) _ h1 hp2 hxp (fmul_lt h1 _ _)) ?_
    go_wp2_with fail
    refine ret_pure (add_nat p y z _ h1 hp2 hyp hzp) ?_
    go_wp2_with fail
    refine ret_pure (mul_nat p x (fadd p y z) _ h1 hp2 hxp (fadd_lt h1 _ _)) ?_
    go_wp2_with fail
    refine ret_pure (mul_nat p x y _ h1 hp2 hxp hyp) ?_
    go_wp2_with fail
    refine ret_pure (mul_nat p x z _ h1 hp2 hxp hzp) ?_
    go_wp2_with fail
    refine ret_pure (add_nat p (fmul p x y) (fmul p x z) _ h1 hp2 (fmul_lt h1 _ _) (fmul_lt h1 _ _)) ?_
    go_wp2_with fail
    refine ret_pure (awake_any _ HB2.out) ?_
    go_wp2_with fail
    go_ret
    exact RetB.bool rfl hbw2
  · have hL := light_any A0 L0.length c0 w
    rw [decide_eq_false hlight] at hL
    have HLt := Lib.hid hL
    have HB := Lib.hid hB
    clear hL hB
    go_enter Tryd.func3, Tryd.ntmps3
    go_wp2_with fail
    refine ret_pure HLt.out ?_
    go_wp2_with fail
    refine ret_pure (awake_any _ HB.out) ?_
    go_wp2
    go_ret
    exact RetB.bool rfl (Below.refl _ _)
end Go.Proofs.YthbablmgpjjphaaDoor
