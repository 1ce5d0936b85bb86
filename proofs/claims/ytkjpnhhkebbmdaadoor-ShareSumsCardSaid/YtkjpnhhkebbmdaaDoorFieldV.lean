/-
  Fields: the test of Miller and Rabin, which primes are permitted; inverses and powers.
-/
import Derived.Test.YtkjpnhhkebbmdaaDoorFieldA
namespace Go.Proofs.YtkjpnhhkebbmdaaDoor
open Go.RowKit

/-- The odd part of a number, and how often it is halved. -/
def halve : Nat → Nat → Nat × Nat
  | 0, n => (n, 0)
  | f + 1, n => if n % 2 = 0 then ((halve f (n / 2)).1, (halve f (n / 2)).2 + 1) else (n, 0)
theorem halve_mul : ∀ f n, (halve f n).1 * 2 ^ (halve f n).2 = n
  | 0, n => by simp [halve]
  | f + 1, n => by
    unfold halve
    split
    · rename_i h
      simp only [Nat.pow_succ]
      rw [← Nat.mul_assoc, halve_mul f (n / 2)]; omega
    · simp
theorem halve_odd : ∀ f n, 1 ≤ n → n < 2 ^ f → (halve f n).1 % 2 = 1
  | 0, n, h1, h2 => by simp at h2; omega
  | f + 1, n, h1, h2 => by
    unfold halve
    split
    · rename_i h
      exact halve_odd f (n / 2) (by omega) (by rw [Nat.pow_succ] at h2; omega)
    · omega
def mrD (p : Nat) : Nat := (halve 31 (p - 1)).1
def mrS (p : Nat) : Nat := (halve 31 (p - 1)).2
theorem mr_mul (p : Nat) : mrD p * 2 ^ mrS p = p - 1 := halve_mul 31 (p - 1)
theorem mr_odd (p : Nat) (h : 2 ≤ p) (h2 : p ≤ 2147483648) : mrD p % 2 = 1 := halve_odd 31 (p - 1) (by omega) (by omega)
/-- Some of the numbers x^2, x^4 .. (n of them) is p - 1. -/
def mrGo (p : Nat) : Nat → Nat → Bool
  | 0, _ => false
  | n + 1, x => if fmul p x x = p - 1 then true else mrGo p n (fmul p x x)
def mrX (p b : Nat) : Nat := fpow p (b % p) (mrD p)
def mrPass (p b : Nat) : Bool := if mrX p b = 1 ∨ mrX p b = 0 ∨ mrX p b = p - 1 then true else mrGo p (mrS p - 1) (mrX p b)
def vGo (p : Nat) : List Nat → Bool
  | [] => true
  | b :: l => if p = b then true else if p % b = 0 then false else if mrPass p b then vGo p l else false
def validF (p : Nat) : Bool := if p < 2 ∨ 1073741824 < p ∨ (2 < p ∧ p % 2 = 0) then false else vGo p [2, 3, 5, 7]

theorem mr_first (p b : Nat) (h : mrX p b = 1 ∨ mrX p b = 0 ∨ mrX p b = p - 1) : true = mrPass p b := by unfold mrPass; rw [if_pos h]
theorem mr_later (p b : Nat) (h : ¬ (mrX p b = 1 ∨ mrX p b = 0 ∨ mrX p b = p - 1)) : mrGo p (mrS p - 1) (mrX p b) = mrPass p b := by unfold mrPass; rw [if_neg h]
theorem mrGo_yes (p n x : Nat) (h : fmul p x x = p - 1) : mrGo p (n + 1) x = true := by unfold mrGo; rw [if_pos h]
theorem mrGo_no (p n x : Nat) (h : ¬ fmul p x x = p - 1) : mrGo p (n + 1) x = mrGo p n (fmul p x x) := if_neg h
theorem two_pow_pos (k : Nat) : 1 ≤ 2 ^ k := Nat.one_le_two_pow
theorem halfs {d s k o : Nat} (hd : d % 2 = 1) (h : o * 2 ^ k = d * 2 ^ s) (hk : k ≤ s) : (o % 2 = 0 ↔ k < s) := by
  have h1 : o = d * 2 ^ (s - k) := by
    have h2 : d * 2 ^ s = d * 2 ^ (s - k) * 2 ^ k := by rw [Nat.mul_assoc, ← Nat.pow_add, show s - k + k = s by omega]
    rw [h2] at h
    exact Nat.eq_of_mul_eq_mul_right (two_pow_pos k) h
  constructor
  · intro h0
    rcases Nat.lt_or_ge k s with hlt | hge
    · exact hlt
    · rw [h1, show s - k = 0 by omega] at h0; simp at h0; omega
  · intro hlt
    rw [h1, show s - k = (s - k - 1) + 1 by omega, Nat.pow_succ, ← Nat.mul_assoc, Nat.mul_mod_left]
theorem half_step {o k n : Nat} (h : o * 2 ^ k = n) (h0 : o % 2 = 0) : o / 2 * 2 ^ (k + 1) = n := by
  rw [Nat.pow_succ, ← Nat.mul_assoc, Nat.mul_right_comm, show o / 2 * 2 = o by omega, h]

set_option maxHeartbeats 800000 in
theorem passes_any (p b : Nat) (w : World) (hp : 3 ≤ p) (hp2 : p ≤ 2147483647) (hb : b ≤ 1000) :
    Calls Tryd.prog 64 #[.int .i64 p, .int .i64 b] w (Ret (.bool (mrPass p b)) w) := by
  have HD := Lib.hid (mr_odd p (by omega) (by omega))
  have HM := Lib.hid (mr_mul p)
  have hbp : b % p < p := Nat.mod_lt _ (by omega)
  have hxl : mrX p b < p := fpow_lt (by omega) _ _
  have hs31 : mrS p ≤ 62 := by
    rcases Nat.lt_or_ge 62 (mrS p) with h | h
    · have h1 := Nat.pow_le_pow_right (n := 2) (by omega) (Nat.le_of_lt h)
      have h2 : 1 ≤ mrD p := by have := HD.out; omega
      have h3 := Nat.mul_le_mul h2 h1
      rw [HM.out] at h3; omega
    · exact h
  go_enter Tryd.func64, Tryd.ntmps64
  go_wp2_with fail
  go_loop [5, 6] (fun o t => ∃ o' k : Nat, o = .int .i64 o' ∧ t = .int .i64 k ∧ o' * 2 ^ k = p - 1 ∧ k ≤ mrS p ∧ 1 ≤ o' ∧ o' ≤ p) (fun o _ => (intOf o).toNat)
  case atStart => exact ⟨p - 1, 0, by go_num, rfl, by simp, by omega, by omega, by omega⟩
  case round =>
    obtain ⟨o, k, rfl, rfl, hinv, hk, ho1, ho2⟩ := hrel
    have HI := Lib.hid hinv
    clear hinv
    have HH := Lib.hid (halfs HD.out (HI.out.trans HM.out.symm) hk)
    by_cases h0 : o % 2 = 0
    · have hk' := HH.out.1 h0
      have t1 : ((o : Int) % 2 == 0) = true := by simp; omega
      go_wp2_with fail
      go_round
      case rel => exact ⟨o / 2, k + 1, by go_num, by go_num, half_step HI.out h0, by omega, by omega, by omega⟩
      case measure => simp [intOf]; omega
    · have hk' : k = mrS p := Nat.le_antisymm hk (Nat.not_lt.1 fun h => h0 (HH.out.2 h))
      subst hk'
      have ho : o = mrD p := Nat.eq_of_mul_eq_mul_right (two_pow_pos (mrS p)) (HI.out.trans HM.out.symm)
      subst ho
      have t1 : ((mrD p : Int) % 2 == 0) = false := by simp; omega
      go_wp2_with fail
      refine ret_pure (fpower_any p (b % p) (mrD p) _ (by omega) (by omega) hbp (by omega)) ?_
      rw [show fpow p (b % p) (mrD p) = mrX p b from rfl]
      by_cases hx : mrX p b = 1 ∨ mrX p b = 0 ∨ mrX p b = p - 1
      · have HP := Lib.hid (mr_first p b hx)
        rcases hx with h | h | h
        · have t2 : ((mrX p b : Int) == 1) = true := by simp; omega
          have HX := Lib.hid h
          clear h
          go_wp2_with fail
          go_ret
          exact Ret.bool HP.out
        · have t2 : ((mrX p b : Int) == 1) = false := by simp; omega
          have t3 : ((mrX p b : Int) == 0) = true := by simp; omega
          have HX := Lib.hid h
          clear h
          go_wp2_with fail
          go_ret
          exact Ret.bool HP.out
        · have t4 : ((mrX p b : Int) == (p : Int) - 1) = true := by simp; omega
          by_cases h1 : mrX p b = 1
          · have t2 : ((mrX p b : Int) == 1) = true := by simp; omega
            have HX := Lib.hid h
            have HX1 := Lib.hid h1
            clear h h1
            go_wp2_with fail
            go_ret
            exact Ret.bool HP.out
          · have t2 : ((mrX p b : Int) == 1) = false := by simp; omega
            have t3 : ((mrX p b : Int) == 0) = false := by simp; omega
            have HX := Lib.hid h
            clear h h1
            go_wp2_with fail
            go_ret
            exact Ret.bool HP.out
      · have HP := Lib.hid (mr_later p b hx)
        have t2 : ((mrX p b : Int) == 1) = false := by simp; omega
        have t3 : ((mrX p b : Int) == 0) = false := by simp; omega
        have t4 : ((mrX p b : Int) == (p : Int) - 1) = false := by simp; omega
        clear hx
        go_wp2_with fail
        generalize hX : mrX p b = X at *
        clear t2 t3 t4 hX
        go_loop [7, 38] (fun x i => ∃ x' m : Nat, x = .int .i64 x' ∧ i = .int .i64 m ∧ x' < p ∧ (m ≤ mrS p - 1) ∧ mrGo p (mrS p - 1 - m) x' = mrPass p b) (fun _ i => 70 - (intOf i).toNat)
        case atStart => exact ⟨X, 0, rfl, rfl, hxl, by omega, HP.out⟩
        case round =>
          obtain ⟨x, m, rfl, rfl, hxp, hm, hgo⟩ := hrel
          have HG := Lib.hid hgo
          clear hgo
          by_cases hlt : (m : Int) < (mrS p : Int) - 1
          · go_wp2_with fail
            refine ret_pure (mul_nat p x x _ (by omega) (by omega) hxp hxp) ?_
            have hfl : fmul p x x < p := fmul_lt (by omega) _ _
            by_cases hq : fmul p x x = p - 1
            · have t5 : ((fmul p x x : Int) == (p : Int) - 1) = true := by simp; omega
              have HR := Lib.hid (show true = mrPass p b by
                rw [← HG.out, show mrS p - 1 - m = (mrS p - 1 - m - 1) + 1 by omega, mrGo_yes p _ x hq])
              clear hq
              go_wp2_with fail
              go_ret
              exact Ret.bool HR.out
            · have t5 : ((fmul p x x : Int) == (p : Int) - 1) = false := by simp; omega
              have HR := Lib.hid (show mrGo p (mrS p - 1 - (m + 1)) (fmul p x x) = mrPass p b by
                rw [← HG.out, show mrS p - 1 - m = (mrS p - 1 - (m + 1)) + 1 by omega, mrGo_no p _ x hq])
              clear hq
              go_wp2_with fail
              go_round
              case rel => exact ⟨fmul p x x, m + 1, rfl, by go_num, hfl, by omega, HR.out⟩
              case measure => simp [intOf]; omega
          · go_wp2_with fail
            go_ret
            refine Ret.bool ?_
            rw [← HG.out, show mrS p - 1 - m = 0 by omega]; rfl
end Go.Proofs.YtkjpnhhkebbmdaaDoor
