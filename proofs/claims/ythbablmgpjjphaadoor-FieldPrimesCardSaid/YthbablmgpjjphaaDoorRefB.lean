/-
  The document's powers.
-/
import Derived.Test.YthbablmgpjjphaaDoorRefA
namespace Go.Proofs.YthbablmgpjjphaaDoor
open Go.RowKit

theorem redE_eq (p : Nat) (n : Int) (hp : 2 ≤ p) : (n.tmod ((p : Int) - 1) + p - 1) % ((p : Int) - 1) = (redE p n : Nat) := by
  have h := modI_tmod n ((p : Int) - 1) (by omega)
  rw [modI_ge _ _ (by omega)] at h
  have e : ((p - 1 : Nat) : Int) = (p : Int) - 1 := by omega
  have hr := Int.emod_nonneg n (b := (p : Int) - 1) (by omega)
  unfold redE
  rw [e, Int.toNat_of_nonneg hr, Int.add_sub_assoc, Int.add_emod_right, h]
theorem redE_lt (p : Nat) (n : Int) (hp : 2 ≤ p) : redE p n < p := by
  have h1 := Int.emod_lt_of_pos n (b := ((p - 1 : Nat) : Int)) (by omega)
  unfold redE; omega
theorem and_one_i64 (E : Int) (h0 : 0 ≤ E) (h1 : E ≤ 9223372036854775807) : bits BinOp.and IntKind.i64 E 1 = E % 2 := by
  have h := and_one_u64 E h0 (by omega)
  have key : bits BinOp.and IntKind.i64 E 1 = if (true && decide (bits BinOp.and IntKind.u64 E 1 ≥ 2 ^ 63)) = true then bits BinOp.and IntKind.u64 E 1 - 2 ^ 64 else bits BinOp.and IntKind.u64 E 1 := rfl
  rw [key, h, if_neg]
  simp
  omega

set_option maxHeartbeats 400000 in
theorem refPow_nz (p a : Nat) (n : Int) (w : World) (hp : PrimeN p) (hp2 : p ≤ 2147483648) (ha : a < p) (h0 : ¬ a = 0) (hn0 : ¬ n = 0) (_ : -9223372036854775808 ≤ n) (_ : n ≤ 9223372036854775807) :
    Calls Tryd.prog 32 #[.int .i64 p, .int .i64 a, .int .i64 n] w (Ret (.int .i64 (powV p a n : Nat)) w) := by
  have h2 := hp.1
  have HV := Lib.hid (pow_red hp ha h0 n)
  have HE := Lib.hid (redE_eq p n h2)
  have hel := redE_lt p n h2
  have h1 := Int.tmod_lt_of_pos n (b := (p : Int) - 1) (by omega)
  have h3 := Int.lt_tmod_of_pos n (b := (p : Int) - 1) (by omega)
  have t0 : (n == 0) = false := by simp; omega
  have t1 : ((a : Int) == 0) = false := by simp; omega
  have t2 : ((p : Int) == 0) = false := by simp; omega
  have t3 : ¬ (p : Int) = 0 := by omega
  have t4 : ((p : Int) - 1 == 0) = false := by simp; omega
  have t5 : ¬ (p : Int) - 1 = 0 := by omega
  have e0 : (1 : Int) % (p : Int) = (fone p : Nat) := rfl
  have hf1 := fone_lt (show 1 ≤ p by omega)
  clear hp hn0 h0
  generalize redE p n = E at *
  go_enter Tryd.func32, Tryd.ntmps32
  go_wp2_with fail
  rw [HE.out]
  go_loop [1, 7, 8] (fun x n o => ∃ x' n' o' : Nat, x = .int .i64 x' ∧ n = .int .i64 n' ∧ o = .int .i64 o' ∧ x' < p ∧ o' < p ∧ n' < 2147483648 ∧ o' * x' ^ n' % p = fpow p a E) (fun _ n _ => (intOf n).toNat)
  case atStart => exact ⟨a, E, fone p, rfl, rfl, rfl, ha, by omega, by omega, by unfold fone fpow; rw [Nat.mul_mod, Nat.mod_mod, ← Nat.mul_mod, Nat.one_mul]⟩
  case round =>
    obtain ⟨x, n', o, rfl, rfl, rfl, hx, ho, hn', hinv⟩ := hrel
    have HI := Lib.hid hinv
    clear hinv
    by_cases hn0 : 0 < n'
    · have hbit := and_one_i64 (n' : Int) (by omega) (by omega)
      have m1 := mulN_bound hx hx hp2
      have x1 : (x : Int) * x = (x * x : Nat) := by push_cast; rfl
      have w1 : IntKind.i64.wrap ((x : Int) * x) = (x : Int) * x := IntWalk.i64_in _ (by omega)
      have r1 : ((x : Int) * x).tmod p = (fmul p x x : Nat) := by rw [x1, Int.tmod_eq_emod_of_nonneg (by omega)]; rfl
      have l1 := fmul_lt (show 1 ≤ p by omega) x x
      clear x1
      by_cases hodd : n' % 2 = 1
      · have hb : (bits BinOp.and IntKind.i64 (n' : Int) 1 == 1) = true := by rw [hbit]; simp; omega
        have m2 := mulN_bound ho hx hp2
        have x2 : (o : Int) * x = (o * x : Nat) := by push_cast; rfl
        have w2 : IntKind.i64.wrap ((o : Int) * x) = (o : Int) * x := IntWalk.i64_in _ (by omega)
        have r2 : ((o : Int) * x).tmod p = (fmul p o x : Nat) := by rw [x2, Int.tmod_eq_emod_of_nonneg (by omega)]; rfl
        have l2 := fmul_lt (show 1 ≤ p by omega) o x
        clear hbit x2
        go_wp2_with fail
        go_round
        case rel =>
          refine ⟨fmul p x x, n' / 2, fmul p o x, rfl, by go_num, rfl, fmul_lt (by omega) _ _, fmul_lt (by omega) _ _, by omega, ?_⟩
          rw [← HI.out]; exact pow_odd p o x n' hodd
        case measure => simp [intOf]; omega
      · have hb : (bits BinOp.and IntKind.i64 (n' : Int) 1 == 1) = false := by rw [hbit]; simp; omega
        clear hbit
        go_wp2_with fail
        go_round
        case rel =>
          refine ⟨fmul p x x, n' / 2, o, rfl, by go_num, rfl, fmul_lt (by omega) _ _, ho, by omega, ?_⟩
          rw [← HI.out]; exact pow_even p o x n' hodd
        case measure => simp [intOf]; omega
    · go_wp2_with fail
      go_ret
      refine Ret.int ?_
      have := HI.out
      rw [show n' = 0 by omega, Nat.pow_zero, Nat.mul_one, Nat.mod_eq_of_lt ho] at this
      rw [this, HV.out]

theorem powV_0_0 (p a : Nat) : powV p a 0 = fone p := (powV_pos p a 0).symm
theorem powV_0 (p : Nat) (n : Int) (h : ¬ n = 0) : powV p 0 n = 0 := by
  unfold powV
  split
  · unfold fpow; rw [Nat.zero_pow (by omega), Nat.zero_mod]
  · rfl
set_option maxHeartbeats 400000 in
theorem refPow_any (p a : Nat) (n : Int) (w : World) (hp : PrimeN p) (hp2 : p ≤ 2147483648) (ha : a < p) (hn : -9223372036854775808 ≤ n) (hn2 : n ≤ 9223372036854775807) :
    Calls Tryd.prog 32 #[.int .i64 p, .int .i64 a, .int .i64 n] w (Ret (.int .i64 (powV p a n : Nat)) w) := by
  have h2 := hp.1
  have t3 : ¬ (p : Int) = 0 := by omega
  have t2 : ((p : Int) == 0) = false := by simp; omega
  by_cases h0 : n = 0
  · subst h0
    have e0 : (1 : Int) % (p : Int) = (fone p : Nat) := rfl
    have HV := Lib.hid (powV_0_0 p a)
    have hf1 := fone_lt (show 1 ≤ p by omega)
    go_enter Tryd.func32, Tryd.ntmps32
    go_wp2
    go_ret
    exact Ret.int (by rw [HV.out]; rfl)
  · by_cases ha0 : a = 0
    · subst ha0
      have HV := Lib.hid (powV_0 p n h0)
      have t0 : (n == 0) = false := by simp; omega
      clear h0
      go_enter Tryd.func32, Tryd.ntmps32
      go_wp2
      go_ret
      exact Ret.int (by rw [HV.out]; rfl)
    · exact refPow_nz p a n w hp hp2 ha ha0 h0 hn hn2

set_option maxHeartbeats 400000 in
theorem refInverse_any (p a : Nat) (w : World) (hp : PrimeN p) (hp2 : p ≤ 2147483648) (ha : a < p) :
    Calls Tryd.prog 27 #[.int .i64 p, .int .i64 a] w (Ret (.tuple #[.int .i64 (invV p a : Nat), .int .i64 (invE a)]) w) := by
  have h2 := hp.1
  by_cases h : a = 0
  · have HV := Lib.hid (inv_zero p a h)
    have t1 : ((a : Int) == 0) = true := by simp; omega
    have HA := Lib.hid h
    clear h hp
    go_enter Tryd.func27, Tryd.ntmps27
    go_wp2
    go_ret2
    exact Ret.val (pair_nat (x := invV p a) (y := 0) HV.out)
  · have HV := Lib.hid (inv_pos p a h)
    have t1 : ((a : Int) == 0) = false := by simp; omega
    have HE := Lib.hid (show (p : Int) - 2 = ((p - 2 : Nat) : Int) by omega)
    have HP := Lib.hid hp
    have HF := Lib.hid (show powV p a ((p - 2 : Nat) : Int) = finv p a from (powV_pos p a (p - 2)).symm)
    clear h hp
    go_enter Tryd.func27, Tryd.ntmps27
    go_wp2_with fail
    rw [HE.out]
    refine ret_pure (refPow_any p a ((p - 2 : Nat) : Int) _ HP.out hp2 ha (by omega) (by omega)) ?_
    rw [HF.out]
    go_wp2_with fail
    go_ret2
    exact Ret.val (pair_nat (x := invV p a) (y := finv p a) HV.out)
end Go.Proofs.YthbablmgpjjphaaDoor
