/-
  PolyWeights: the walk.
-/
import Derived.Test.YthbablmgpjjphaaPolDivW
namespace Go.Proofs.Ythbablmgpjjphaa
open Go.RowKit

attribute [local go_sem high] sliced_low

theorem modN (c : Int) {n : Nat} (h : 1 ≤ n) : ∃ k : Nat, modI c (n : Int) = (k : Int) ∧ k < n := by
  have hr := modI_range c (n : Int) (by omega)
  exact ⟨(modI c (n : Int)).toNat, by omega, by omega⟩
def smN (p : Nat) (V : List Nat) : Nat → Nat
  | 0 => 0
  | n + 1 => fadd p (smN p V n) (nthN V n)
theorem smN_cg (p : Nat) (V : List Nat) : ∀ n, Cg p (smN p V n : Nat) (sumI n fun k => (nthN V k : Nat))
  | 0 => rfl
  | n + 1 => (cg_add p _ _).trans ((smN_cg p V n).add (Cg.refl p _))
theorem smN_lt {p : Nat} (hp : 1 ≤ p) (V : List Nat) : ∀ n, smN p V n < p
  | 0 => hp
  | _ + 1 => fadd_lt hp _ _
theorem smN_ws {p : Nat} (hp : PrimeN p) {xs : List Nat} (hx : ∀ y ∈ xs, y < p) (hn : xs.Nodup) (h0 : 0 < xs.length) (x : Nat) : smN p (wsN p xs x) xs.length = fone p := by
  have hp1 : 1 ≤ p := by have := hp.1; omega
  refine Cg.nat (p := p) ?_ (smN_lt hp1 _ _) (fone_lt hp1)
  refine (smN_cg p _ _).trans (Cg.trans ?_ (cg_one p).symm)
  refine Cg.trans (sumI_cg _ fun k hk => ?_) (w_sum hp hx hn h0 x)
  rw [wsN_nth p xs x hk]; exact Cg.refl p _
theorem wsN_at {p : Nat} (hp : PrimeN p) {xs : List Nat} (hx : ∀ y ∈ xs, y < p) (hn : xs.Nodup) {k j : Nat} (hk : k < xs.length) (hj : j < xs.length) : nthN (wsN p xs (nthN xs k)) j = if j = k then fone p else 0 := by
  rw [wsN_nth p xs _ hj, wN_at hp hx hn hk hj]
  have : fone p = 1 := Nat.mod_eq_of_lt (by have := hp.1; omega)
  rw [this]
theorem add_mod_nat (p a b : Nat) : ((a : Int) + (b : Int)) % (p : Int) = (fadd p a b : Nat) := by
  unfold fadd; push_cast; rfl

set_option maxRecDepth 100000 in
set_option maxHeartbeats 4000000 in
theorem polyWeights_walk (A0 : Option Addr) (L0 : List Int) (c0 : Nat) (which : Int) (w : World) (hl0 : L0.length ≤ maxLen) (hI0 : IntsAt w A0 L0) (_ : ∀ n ∈ L0, -9223372036854775808 ≤ n ∧ n ≤ 9223372036854775807) (_ : -9223372036854775808 ≤ which ∧ which ≤ 9223372036854775807) :
    Calls Try.prog 5 #[.slice A0 L0.length c0, .int .i64 which] w (RetB (.bool true) w) := by
  by_cases hlight : (L0.length : Int) ≤ 500
  · have hL := light_any A0 L0.length c0 w
    rw [decide_eq_true hlight] at hL
    have HLt := Lib.hid hL
    clear hL hlight
    go_enter Try.func5, Try.ntmps5
    go_wp2_with fail
    refine ret_pure HLt.out ?_
    clear HLt
    go_wp2_with fail
    refine (roll_any A0 L0 c0 _ hl0 hI0).mono ?_
    rintro e w1 ⟨D, rfl, hDs, hD, hb1⟩
    have hE1 : Env w w1 D L0 := ⟨hD, hDs, hb1⟩
    clear hI0 hD hDs hb1
    go_wp2_with fail
    refine (prime_any D L0 _ hE1.dice).mono ?_
    rintro e w2 ⟨p, rfl, hpp, hp5, -, hD2, hg2⟩
    have hE2 := hE1.next hD2 hg2
    have h2 := hpp.1
    have h1 : 1 ≤ p := by omega
    have hp2 : p ≤ 2147483648 := by omega
    have HPP := Lib.hid hpp
    clear hg2 hD2 hE1 hpp
    go_wp2_with fail
    refine (points_any D _ p 7 _ hE2.dice h1 hp2 (by omega)).mono ?_
    rintro e w3 ⟨X, cx, xs, Y, cy, ys, R3, rfl, hnd, hxp, -, -, hxl, hX, -, hD3, hg3⟩
    have hE3 := hE2.next hD3 hg3
    clear hD3 hg3 hE2
    by_cases h0 : xs.length = 0
    · have t1 : ((xs.length : Int) == 0) = true := by simp [h0]
      clear h0
      go_wp2_with fail
      refine ret_below (awake_any _) ?_
      intro w9 hb9
      have hbf := below_trans hE3.below hb9
      go_wp2_with fail
      go_ret
      exact RetB.bool rfl hbf
    · have t1 : ((xs.length : Int) == 0) = false := beq_eq_false_iff_ne.2 (by omega)
      have hx1 : 1 ≤ xs.length := by omega
      obtain ⟨k, hk, hkl⟩ := modN which hx1
      have HK := Lib.hid hk
      have hck := ckE_ok h0 hnd
      have hw : ∀ (x : Nat) (W : World), x < p → Below w3.heap.size w3 W ∨ w3.grownBy W (some D) → Calls Try.prog 26 #[.int .i64 p, .slice X xs.length cx, .int .i64 x] W (ListErr (wsN p xs x) 0 W) := fun x W hx hb => by
        have hXW : Held W D X cx xs := hb.elim hX.below hX.mv
        have := weights_any p X xs cx x W h2 hp2 hXW.nats hxp (by omega) hx
        rw [wsR_ok hck, hck] at this; exact this
      have HW := Lib.hid hw
      have HAT := Lib.hid (fun (j : Nat) (hj : j < xs.length) => wsN_at HPP.out hxp hnd hkl hj)
      have HSM := Lib.hid (fun x => smN_ws HPP.out hxp hnd hx1 x)
      have hxkp := nthN_lt h1 hxp k
      have HLN := Lib.hid (fun x => wsN_len p xs x)
      have HLT := Lib.hid (fun x => wsN_lt h1 xs x)
      obtain ⟨bX, oX, rfl, hbX, hcX⟩ := hX.nats k hkl
      have i1 : (0 : Int) ≤ (k : Int) := by omega
      have i2 : (k : Int) < (xs.length : Int) := by omega
      clear hk h0 hck hw hX hnd hxp
      go_wp2_with fail
      refine ret_pure (mod_any which xs.length _ (by omega)) ?_
      rw [HK.out]
      go_wp2_with fail
      refine (HW.out (nthN xs k) _ hxkp (.inl (Below.refl _ _))).mono ?_
      rintro e w4 ⟨WA, wc, rfl, hWn, hWS, hWb, hb4⟩
      have hWH := held_new hE3.lt hWn hWS hWb
      have hE4 := hE3.mv hb4
      have hlw := HLN.out (nthN xs k)
      have HAT2 := Lib.hid HAT.out
      clear hWn hWS hWb hcX hE3
      generalize wsN p xs (nthN xs k) = W at *
      go_wp2_with fail
      refine (next_nat D _ p _ hE4.dice (by omega) (by omega)).mono ?_
      rintro e w5 ⟨x, rfl, hx, hD5, hg5⟩
      have hE5 := hE4.next hD5 hg5
      have hWH5 := hWH.mv hg5
      have hg35 := grown_trans (grown_of_below (r := some D) hb4) hg5
      clear hD5 hg5 hE4 hWH hb4
      go_wp2_with fail
      refine (HW.out x _ (by omega) (.inr hg35)).mono ?_
      rintro e w6 ⟨VA, vc, rfl, hVn, hVS, hVb, hb6⟩
      have hE6 := hE5.mv hb6
      have hWn6 := Lib.hid (hWH5.nats.below hb6)
      have hVn6 := Lib.hid hVn
      have hlv := HLN.out x
      have HVL := Lib.hid (nthN_lt h1 (HLT.out x))
      have HWL := Lib.hid (nthN_lt h1 (HLT.out (nthN xs k)))
      have HSV := Lib.hid (HSM.out x)
      clear hVn hVS hVb hE5 hWH5 hg35
      generalize wsN p xs x = V at *
      have t2 : ((W.length : Int) != (xs.length : Int)) = false := by rw [hlw]; simp
      have t3 : ((V.length : Int) != (xs.length : Int)) = false := by rw [hlv]; simp
      have hlw1 : W.length ≤ xs.length := by omega
      have hlw2 : xs.length ≤ W.length := by omega
      have hlv1 : V.length ≤ xs.length := by omega
      have hlv2 : xs.length ≤ V.length := by omega
      have HLW := Lib.hid hlw
      have ho1 := one_tmod p h1
      have ho2 : (1 : Int) % (p : Int) = (fone p : Nat) := rfl
      have hof := fone_lt h1
      have t8 : ((p : Int) == 0) = false := beq_eq_false_iff_ne.2 (by omega)
      have t9 : ¬ (p : Int) = 0 := by omega
      clear hlw hlv HAT HSM HLN HLT HWL
      go_wp2_with fail
      go_loop [14, 80] (fun s i => ∃ (j s' : Nat), j ≤ W.length ∧ i = .int .i64 j ∧ s = .int .i64 s' ∧ s' < p ∧ s' = smN p V j) (fun _ i => W.length - (intOf i).toNat)
      case atStart => exact ⟨0, 0, Nat.zero_le _, rfl, rfl, h1, rfl⟩
      case round =>
        obtain ⟨j, s, hj, rfl, rfl, hs, hse⟩ := hrel
        have HSE := Lib.hid hse
        clear hse
        by_cases hlt : j < W.length
        · obtain ⟨bW, oW, rfl, hbW, hcW⟩ := hWn6.out j hlt
          obtain ⟨bV, oV, rfl, hbV, hcV⟩ := hVn6.out j (by omega)
          have hvl := HVL.out j
          have r1 := add_mod_nat p s (nthN V j)
          have hat := HAT2.out j (by omega)
          by_cases hjk : j = k
          · rw [if_pos hjk] at hat
            rw [hat] at hcW
            have t4 : ((j : Int) == (k : Int)) = true := by simp; omega
            have t5 : ((fone p : Int) != (fone p : Int)) = false := by simp
            have t6 : ((j : Int) != (k : Int)) = false := by simp; omega
            clear hat hjk
            go_wp2_with fail
            go_round
            case rel => exact ⟨j + 1, fadd p s (nthN V j), by omega, by go_num, rfl, fadd_lt h1 _ _, by rw [HSE.out]; rfl⟩
            case measure => simp [intOf]; omega
          · rw [if_neg hjk] at hat
            rw [hat] at hcW
            have t4 : ((j : Int) == (k : Int)) = false := by simp; omega
            have t6 : ((j : Int) != (k : Int)) = true := by simp; omega
            clear hat hjk
            go_wp2_with fail
            go_round
            case rel => exact ⟨j + 1, fadd p s (nthN V j), by omega, by go_num, rfl, fadd_lt h1 _ _, by rw [HSE.out]; rfl⟩
            case measure => simp [intOf]; omega
        · obtain rfl : j = W.length := by omega
          have hs1 : s = fone p := by rw [HSE.out, HLW.out, HSV.out]
          have t4 : ((s : Int) == (fone p : Int)) = true := by simp; omega
          clear hs1
          go_wp2_with fail
          refine ret_below (awake_any _) ?_
          intro w9 hb9
          have hbf := below_trans hE6.below hb9
          go_wp2_with fail
          go_ret
          exact RetB.bool rfl hbf
  · have hL := light_any A0 L0.length c0 w
    rw [decide_eq_false hlight] at hL
    have HLt := Lib.hid hL
    clear hL
    go_enter Try.func5, Try.ntmps5
    go_wp2_with fail
    refine ret_pure HLt.out ?_
    go_wp2_with fail
    refine ret_below (awake_any _) ?_
    intro w1 hb1
    go_wp2
    go_ret
    exact RetB.bool rfl hb1
end Go.Proofs.Ythbablmgpjjphaa
