/-
  Which numbers are prime by the document, which lists are of elements.
-/
import Derived.Test.YtkjpnhhkebbmdaaDoorRefCP
import Derived.Test.YtkjpnhhkebbmdaaDoorFieldW
namespace Go.Proofs.YtkjpnhhkebbmdaaDoor
open Go.RowKit

/-! ### Lists of elements -/
def inside (p : Int) (L : List Int) : Bool := L.all fun n => decide (0 ≤ n) && decide (n < p)
def elemsI (p : Int) (L : List Int) (v : Bool) : Bool := inside p L && v
theorem inside_at {p : Int} {L : List Int} {k : Nat} (hk : k < L.length) (h : nth L k < 0 ∨ p ≤ nth L k) (v : Bool) : false = elemsI p L v := by
  have : inside p L = false := by
    unfold inside
    rw [List.all_eq_false]
    refine ⟨nth L k, by rw [nth_eq hk]; exact List.getElem_mem hk, ?_⟩
    simp; omega
  unfold elemsI; rw [this]; rfl
theorem inside_all {p : Int} {L : List Int} (h : ∀ k, k < L.length → 0 ≤ nth L k ∧ nth L k < p) (v : Bool) : v = elemsI p L v := by
  have : inside p L = true := by
    unfold inside
    rw [List.all_eq_true]
    intro x hx
    obtain ⟨k, hk, rfl⟩ := List.getElem_of_mem hx
    have := h k hk
    rw [nth_eq hk] at this
    simp; exact this
  unfold elemsI; rw [this]; rfl

/-! ### The document's primes -/
noncomputable def primeV (p : Int) : Bool := @decide (p ≤ 1073741824 ∧ PrimeN p.toNat) (Classical.propDecidable _)
theorem primeV_true {p : Nat} (h : p ≤ 1073741824) (hp : PrimeN p) : true = primeV (p : Int) := by
  unfold primeV; exact (@decide_eq_true _ (Classical.propDecidable _) ⟨by omega, by rw [Int.toNat_natCast]; exact hp⟩).symm
theorem primeV_false {p : Int} (h : ¬ (p ≤ 1073741824 ∧ PrimeN p.toNat)) : false = primeV p := by
  unfold primeV; exact (@decide_eq_false _ (Classical.propDecidable _) h).symm
theorem prime_of_small {p k : Nat} (hp : 2 ≤ p) (hk : p < k * k) (h : ∀ e, 2 ≤ e → e < k → ¬ e ∣ p) : PrimeN p := by
  refine ⟨hp, fun d hd => ?_⟩
  rcases Nat.lt_or_ge d 2 with h2 | h2
  · have := Nat.pos_of_dvd_of_pos hd (by omega); omega
  · obtain ⟨m, rfl⟩ := hd
    rcases Nat.lt_or_ge d k with h3 | h3
    · exact absurd (Nat.dvd_mul_right d m) (h d h2 h3)
    · rcases Nat.lt_or_ge m 2 with h4 | h4
      · have : m = 1 := by
          rcases Nat.eq_zero_or_pos m with h5 | h5
          · subst h5; rw [Nat.mul_zero] at hp; omega
          · omega
        subst this; right; omega
      · rcases Nat.lt_or_ge m k with h5 | h5
        · exact absurd (Nat.dvd_mul_left m d) (h m h4 h5)
        · have := Nat.mul_le_mul h3 h5; omega
theorem not_prime_of_dvd {p k : Nat} (hk : 2 ≤ k) (hkk : k * k ≤ p) (hd : k ∣ p) : ¬ PrimeN p := fun h => by
  rcases h.2 k hd with h1 | h1
  · omega
  · have := Nat.mul_le_mul_left k hk; omega

set_option maxHeartbeats 1000000 in
theorem refValid_any (p : Int) (w : World) : Calls Tryd.prog 43 #[.int .i64 p] w (Ret (.bool (primeV p)) w) := by
  by_cases h1 : p < 2
  · have HV := Lib.hid (primeV_false (p := p) (fun h => by have := h.2.1; omega))
    go_enter Tryd.func43, Tryd.ntmps43
    go_wp2
    go_ret
    exact Ret.bool HV.out
  · by_cases h2 : 1073741824 < p
    · have HV := Lib.hid (primeV_false (p := p) (fun h => by have := h.1; omega))
      go_enter Tryd.func43, Tryd.ntmps43
      go_wp2
      go_ret
      exact Ret.bool HV.out
    · obtain ⟨p, rfl⟩ := Int.eq_ofNat_of_zero_le (show 0 ≤ p by omega)
      go_enter Tryd.func43, Tryd.ntmps43
      go_wp2_with fail
      go_loop [3] (fun d => ∃ k : Nat, 2 ≤ k ∧ k ≤ 32769 ∧ d = .int .i64 k ∧ ∀ e, 2 ≤ e → e < k → ¬ e ∣ p) (fun d => 32770 - (intOf d).toNat)
      case atStart => exact ⟨2, by omega, by omega, rfl, fun e h1 h2 => absurd h1 (by omega)⟩
      case round =>
        obtain ⟨k, hk1, hk2, rfl, hpre⟩ := hrel
        have HP := Lib.hid hpre
        clear hpre
        have hb : k * k ≤ 32769 * 32769 := Nat.mul_le_mul hk2 hk2
        have x1 : (k : Int) * k = (k * k : Nat) := by push_cast; rfl
        have w1 : IntKind.i64.wrap ((k : Int) * k) = (k : Int) * k := IntWalk.i64_in _ (by omega)
        have r1 : (p : Int).tmod k = (p : Int) % k := Int.tmod_eq_emod_of_nonneg (by omega)
        have z1 : ¬ (k : Int) = 0 := by omega
        have z2 : ((k : Int) == 0) = false := by simp; omega
        have b1 := Int.emod_nonneg (p : Int) z1
        have b2 := Int.emod_lt_of_pos (p : Int) (b := (k : Int)) (by omega)
        by_cases hkk : k * k ≤ p
        · have hk3 : k ≤ 32768 := by
            rcases Nat.lt_or_ge k 32769 with h | h
            · omega
            · have := Nat.mul_le_mul h h; omega
          have c1 : (k : Int) * k ≤ p := by omega
          by_cases hd : k ∣ p
          · have HV := Lib.hid (primeV_false (p := (p : Int)) (fun h => not_prime_of_dvd hk1 hkk hd (by have := h.2; rwa [Int.toNat_natCast] at this)))
            have t1 : ((p : Int) % k == 0) = true := by rw [← Int.natCast_emod, Nat.mod_eq_zero_of_dvd hd]; rfl
            clear hd x1 hkk hb
            go_wp2_with fail
            go_ret
            exact Ret.bool HV.out
          · have t1 : ((p : Int) % k == 0) = false := by
              rw [← Int.natCast_emod]; simp
              exact fun e => hd (Nat.dvd_of_mod_eq_zero (by omega))
            have HD := Lib.hid hd
            clear hd x1 hkk hb
            go_wp2_with fail
            go_round
            case rel =>
              refine ⟨k + 1, by omega, by omega, by go_num, fun e h1 h2 => ?_⟩
              by_cases hek : e = k
              · subst hek; exact HD.out
              · exact HP.out e h1 (by omega)
            case measure => simp [intOf]; omega
        · have HV := Lib.hid (primeV_true (p := p) (by omega) (prime_of_small (by omega) (by omega) HP.out))
          have c1 : ¬ (k : Int) * k ≤ p := by omega
          clear x1 hkk hb
          go_wp2_with fail
          go_ret
          exact Ret.bool HV.out

set_option maxHeartbeats 1000000 in
theorem elems_ref (A : Option Addr) (L : List Int) (c : Nat) (p : Int) (w : World) (hI : IntsAt w A L) (hl : L.length ≤ 1099511627776) :
    Calls Tryd.prog 47 #[.int .i64 p, .slice A L.length c] w (Ret (.bool (elemsI p L (primeV p))) w) := by
  have HI := Lib.hid hI
  clear hI
  go_enter Tryd.func47, Tryd.ntmps47
  go_wp2_with fail
  go_loop [9] (fun i => ∃ k : Nat, k ≤ L.length ∧ i = .int .i64 k ∧ ∀ j, j < k → 0 ≤ nth L j ∧ nth L j < p) (fun i => L.length - (intOf i).toNat)
  case atStart => exact ⟨0, by omega, rfl, fun j hj => absurd hj (by omega)⟩
  case round =>
    obtain ⟨k, hk, rfl, hpre⟩ := hrel
    have HP := Lib.hid hpre
    clear hpre
    by_cases hkl : k < L.length
    · obtain ⟨b, off, rfl, hb, hc⟩ := HI.out k hkl
      have HF := Lib.hid (fun h => inside_at (p := p) hkl h (primeV p))
      generalize hx : nth L k = x at *
      have HX := Lib.hid hx
      clear hx
      by_cases h1 : x < 0
      · go_wp2_with fail
        go_ret
        exact Ret.bool (HF.out (.inl h1))
      · by_cases h2 : p ≤ x
        · go_wp2_with fail
          go_ret
          exact Ret.bool (HF.out (.inr h2))
        · go_wp2_with fail
          go_round
          case rel =>
            refine ⟨k + 1, by omega, by go_num, fun j hj => ?_⟩
            by_cases hjk : j = k
            · subst hjk; rw [HX.out]; omega
            · exact HP.out j (by omega)
          case measure => simp [intOf]; omega
    · go_wp2_with fail
      refine ret_pure (refValid_any p _) ?_
      rw [inside_all (fun j hj => HP.out j (by omega)) (primeV p)]
      go_wp2_with fail
      go_ret
      exact Ret.bool rfl

end Go.Proofs.YtkjpnhhkebbmdaaDoor
