/-
  FieldPrimes: the walk. The program's test and the document's agree on every number.
-/
import Derived.Test.YthbablmgpjjphaaDoorMrZ
import Derived.Test.YthbablmgpjjphaaDoorRefD
namespace Go.Proofs.YthbablmgpjjphaaDoor
open Go.RowKit

theorem valid_eq (p : Int) : validI p = primeV p := by
  by_cases h : p ≤ 1073741824 ∧ PrimeN p.toNat
  · obtain ⟨h1, h2⟩ := h
    have h3 := h2.1
    obtain ⟨p, rfl⟩ := Int.eq_ofNat_of_zero_le (show 0 ≤ p by omega)
    rw [Int.toNat_natCast] at h2
    rw [validI_prime h2 (by omega)]; exact primeV_true (by omega) h2
  · rw [← primeV_false h]
    by_cases h2 : p < 2
    · exact (validI_small h2).symm
    · by_cases h3 : 1073741824 < p
      · exact (validI_big h3).symm
      · obtain ⟨p, rfl⟩ := Int.eq_ofNat_of_zero_le (show 0 ≤ p by omega)
        rw [Int.toNat_natCast] at h
        cases hv : validI (p : Int) with
        | false => rfl
        | true => exact absurd ⟨by omega, validI_sound hv⟩ h

set_option maxRecDepth 100000 in
set_option maxHeartbeats 2000000 in
theorem fieldPrimes_walk (p : Int) (A1 : Option Addr) (L1 : List Int) (c1 : Nat) (w : World) (hB : Bases w)
    (hp : -9223372036854775808 ≤ p ∧ p ≤ 9223372036854775807)
    (_ : L1.length ≤ maxLen) (hI1 : IntsAt w A1 L1) (_ : ∀ n ∈ L1, -9223372036854775808 ≤ n ∧ n ≤ 9223372036854775807) :
    Calls Tryd.prog 4 #[.int .i64 p, .slice A1 L1.length c1] w (RetB (.bool true) w) := by
  have HB := Lib.hid hB
  have HI1 := Lib.hid hI1
  clear hB hI1
  by_cases hb1 : 50 < (L1.length : Int)
  · go_enter Tryd.func4, Tryd.ntmps4
    go_wp2_with fail
    refine ret_pure (awake_any _ HB.out) ?_
    go_wp2
    go_ret
    exact RetB.bool rfl (Below.refl _ _)
  · obtain ⟨hp1, hp2⟩ := hp
    obtain ⟨a1, a2⟩ := modI_range p 3000 (by omega)
    obtain ⟨b1, b2⟩ := modI_range p 1073741834 (by omega)
    obtain ⟨d1, d2⟩ := modI_range p 4 (by omega)
    go_enter Tryd.func4, Tryd.ntmps4
    go_wp2_with fail
    refine ret_pure (mod_any p 3000 _ (by omega)) ?_
    go_wp2_with fail
    refine ret_pure (mod_any p 1073741834 _ (by omega)) ?_
    go_wp2_with fail
    refine ret_pure (mod_any p 4 _ (by omega)) ?_
    generalize modI p 3000 = x1 at *
    generalize modI p 1073741834 = x2 at *
    generalize modI p 4 = x3 at *
    go_wp2_with fail
    refine gen_world fun w5 hw5 => ?_
    obtain ⟨K, hK⟩ : ∃ K : List Int, K = [p, x1, x2, 1073741824 + x3 - 2] := ⟨_, rfl⟩
    have hb45 : Below w.heap.size w w5 := by rw [hw5]; exact below_alloc _ _
    have hI5 : IntsAt w5 (some ⟨w.heap.size, 0, none⟩) K := by rw [hw5, hK]; exact lit_ints w [p, x1, x2, 1073741824 + x3 - 2]
    have hKl : K.length = 4 := by rw [hK]; rfl
    have HI5 := Lib.hid hI5
    have HB5 := Lib.hid (HB.out.keep hb45)
    have HI15 := Lib.hid (HI1.out.below hb45)
    clear hw5 hI5 hK HI1
    go_loopw [22] (fun i wr => ∃ k : Nat, k ≤ 4 ∧ i = .int .i64 k ∧ wr = w5) (fun i _ => 4 - (intOf i).toNat)
    case atStart => exact ⟨0, by omega, rfl, rfl⟩
    case round =>
      obtain ⟨k, hk, rfl, rfl⟩ := hrel
      by_cases hk6 : k < 4
      · obtain ⟨bK, oK, eK, hbK, hcK⟩ := HI5.out k (by omega)
        injection eK with eK
        injection eK with eK1 eK2
        subst eK1; subst eK2
        rw [Nat.zero_add] at hcK
        generalize nth K k = q at *
        go_wp2_with fail
        refine ret_pure (valid_any q _ HB5.out) ?_
        rw [valid_eq q]
        go_wp2_with fail
        refine ret_pure (refValid_any q _) ?_
        have n1 : (primeV q != primeV q) = false := by simp
        have n2 : (elemsI q L1 (primeV q) != elemsI q L1 (primeV q)) = false := by simp
        go_wp2_with fail
        refine ret_pure (elems_field A1 L1 c1 q _ HB5.out HI15.out (by omega)) ?_
        rw [valid_eq q]
        go_wp2_with fail
        refine ret_pure (elems_ref A1 L1 c1 q _ HI15.out (by omega)) ?_
        go_wp2_with fail
        go_roundw
        case rel => exact ⟨k + 1, by omega, by go_num, trivial⟩
        case measure => simp [intOf]; omega
      · clear HI5
        go_wp2_with fail
        refine ret_pure (awake_any _ HB5.out) ?_
        go_wp2_with fail
        go_ret
        exact RetB.bool rfl hb45
end Go.Proofs.YthbablmgpjjphaaDoor
