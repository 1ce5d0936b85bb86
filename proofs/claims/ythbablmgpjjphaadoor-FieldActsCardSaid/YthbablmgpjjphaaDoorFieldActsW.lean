/-
  FieldActs: the walk.
-/
import Derived.Test.YthbablmgpjjphaaDoorRefD
import Derived.Test.YthbablmgpjjphaaDoorFieldLinW
import Derived.Test.YthbablmgpjjphaaDoorPrimeV
namespace Go.Proofs.YthbablmgpjjphaaDoor
open Go.RowKit

theorem elems_ofN {p : Nat} {L : List Nat} (h : ∀ x ∈ L, x < p) : elemsI (p : Int) (ofN L) true = true := by
  refine (inside_all (fun k hk => ?_) true).symm
  rw [len_ofN] at hk
  rw [nth_ofN]
  have := h _ (nthN_mem hk)
  omega
theorem elems_nats (A : Option Addr) (L : List Nat) (c : Nat) (p : Nat) (w : World) (hB : Bases w) (hN : NatsAt w A L) (hl : L.length ≤ 1099511627776) (hL : ∀ x ∈ L, x < p) (hv : validI (p : Int) = true) :
    Calls Tryd.prog 18 #[.int .i64 p, .slice A L.length c] w (Ret (.bool true) w) := by
  have h := elems_field A (ofN L) c p w hB hN.ints (by rw [len_ofN]; exact hl)
  rw [hv, elems_ofN hL, len_ofN] at h; exact h

set_option maxRecDepth 100000 in
set_option maxHeartbeats 4000000 in
theorem fieldActs_walk (A0 : Option Addr) (L0 : List Int) (c0 : Nat) (a b n : Int) (A1 : Option Addr) (L1 : List Int) (c1 : Nat) (A2 : Option Addr) (L2 : List Int) (c2 : Nat) (w : World) (hB : Bases w)
    (hl0 : L0.length ≤ maxLen) (hI0 : IntsAt w A0 L0) (_ : ∀ n ∈ L0, -9223372036854775808 ≤ n ∧ n ≤ 9223372036854775807)
    (_ : -9223372036854775808 ≤ a ∧ a ≤ 9223372036854775807) (_ : -9223372036854775808 ≤ b ∧ b ≤ 9223372036854775807) (hn : -9223372036854775808 ≤ n ∧ n ≤ 9223372036854775807)
    (_ : L1.length ≤ maxLen) (hI1 : IntsAt w A1 L1) (_ : ∀ n ∈ L1, -9223372036854775808 ≤ n ∧ n ≤ 9223372036854775807)
    (_ : L2.length ≤ maxLen) (_ : IntsAt w A2 L2) (_ : ∀ n ∈ L2, -9223372036854775808 ≤ n ∧ n ≤ 9223372036854775807) :
    Calls Tryd.prog 7 #[.slice A0 L0.length c0, .int .i64 a, .int .i64 b, .int .i64 n, .slice A1 L1.length c1, .slice A2 L2.length c2] w (RetB (.bool true) w) := by
  have hL := light_any A0 L0.length c0 w
  have HB := Lib.hid hB
  clear hB
  by_cases hbad : ¬ (L0.length : Int) ≤ 500 ∨ 50 < (L1.length : Int) ∨ 50 < (L2.length : Int)
  · by_cases hlight : (L0.length : Int) ≤ 500
    · rw [decide_eq_true hlight] at hL
      have HLt := Lib.hid hL
      clear hL
      by_cases hb1 : 50 < (L1.length : Int)
      · clear hbad
        go_enter Tryd.func7, Tryd.ntmps7
        go_wp2_with fail
        refine ret_pure HLt.out ?_
        go_wp2_with fail
        refine ret_pure (awake_any _ HB.out) ?_
        go_wp2
        go_ret
        exact RetB.bool rfl (Below.refl _ _)
      · have hb2 : 50 < (L2.length : Int) := by omega
        clear hbad
        go_enter Tryd.func7, Tryd.ntmps7
        go_wp2_with fail
        refine ret_pure HLt.out ?_
        go_wp2_with fail
        refine ret_pure (awake_any _ HB.out) ?_
        go_wp2
        go_ret
        exact RetB.bool rfl (Below.refl _ _)
    · rw [decide_eq_false hlight] at hL
      have HLt := Lib.hid hL
      clear hL hbad
      go_enter Tryd.func7, Tryd.ntmps7
      go_wp2_with fail
      refine ret_pure HLt.out ?_
      go_wp2_with fail
      refine ret_pure (awake_any _ HB.out) ?_
      go_wp2
      go_ret
      exact RetB.bool rfl (Below.refl _ _)
  · have hlight : (L0.length : Int) ≤ 500 := by omega
    have hb1 : ¬ 50 < (L1.length : Int) := by omega
    have hb2 : ¬ 50 < (L2.length : Int) := by omega
    rw [decide_eq_true hlight] at hL
    have HLt := Lib.hid hL
    have HI1 := Lib.hid hI1
    clear hL hlight hbad hI1
    obtain ⟨hn1, hn2⟩ := hn
    go_enter Tryd.func7, Tryd.ntmps7
    go_wp2_with fail
    refine ret_pure HLt.out ?_
    clear HLt
    go_wp2_with fail
    refine (roll_any A0 L0 c0 _ hl0 hI0).mono ?_
    rintro e w1 ⟨D, rfl, hDs, hD, hb1'⟩
    clear hI0
    go_wp2_with fail
    refine (prime_any D L0 _ hD).mono ?_
    rintro e w2 ⟨p, rfl, hpp, hp5, -, hD2, hg2⟩
    have hbw2 : Below w.heap.size w w2 := hb1'.trans (grown_below hg2 hDs hb1'.size)
    have HB2 := Lib.hid (HB.out.keep hbw2)
    have h2 := hpp.1
    have h1 : 1 ≤ p := by omega
    have hp2 : p ≤ 2147483648 := by omega
    have hs2 := hbw2.size
    have HPV := Lib.hid (validI_prime hpp (by omega))
    have HPW := Lib.hid (primeV_true (p := p) (by omega) hpp)
    have HPP := Lib.hid hpp
    clear hg2 hD hb1' hpp
    generalize L0.tail = R2 at hD2
    obtain ⟨x, hx, hxp⟩ := elem_of a h1
    obtain ⟨y, hy, hyp⟩ := elem_of b h1
    have HX := Lib.hid hx
    have HY := Lib.hid hy
    clear hx hy
    go_wp2_with fail
    refine ret_pure (refElement_any p a _ (by omega) (by omega)) ?_
    rw [HX.out]
    go_wp2_with fail
    refine ret_pure (refElement_any p b _ (by omega) (by omega)) ?_
    rw [HY.out]
    have ⟨hif, hib⟩ : invV p x < p ∧ (0 ≤ invE x ∧ invE x ≤ 7) := by
      unfold invV invE; split
      · omega
      · exact ⟨fpow_lt h1 _ _, by omega⟩
    have n1 : ((invV p x : Int) != (invV p x : Int)) = false := by simp
    have n2 : (invE x != invE x) = false := by simp
    have n3 : ((x : Int) != (x : Int)) = false := by simp
    have n4 : ((fadd p x y : Int) != (fadd p x y : Int)) = false := by simp
    have n5 : ((fsub p x y : Int) != (fsub p x y : Int)) = false := by simp
    have n6 : ((fmul p x y : Int) != (fmul p x y : Int)) = false := by simp
    go_wp2_with fail
    refine ret_pure (inverse_any p x _ h2 hp2 hxp) ?_
    generalize hiv : invV p x = iv at *
    have HIV := Lib.hid hiv
    generalize hie : invE x = ie at *
    have HIE := Lib.hid hie
    clear hiv hie
    go_wp2_with fail
    refine ret_pure (refInverse_any p x _ HPP.out hp2 hxp) ?_
    rw [HIV.out, HIE.out]
    go_wp2_with fail
    refine ret_pure (element_any p a _ (by omega)) ?_
    rw [HX.out]
    go_wp2_with fail
    refine ret_pure (add_nat p x y _ h1 hp2 hxp hyp) ?_
    go_wp2_with fail
    refine ret_pure (refAdd_nat p x y _ h1 hp2 hxp hyp) ?_
    go_wp2_with fail
    refine ret_pure (sub_nat p x y _ h1 hp2 hxp hyp) ?_
    go_wp2_with fail
    refine ret_pure (refSub_nat p x y _ h1 hp2 hxp hyp) ?_
    go_wp2_with fail
    refine ret_pure (mul_nat p x y _ h1 hp2 hxp hyp) ?_
    go_wp2_with fail
    refine ret_pure (refMul_nat p x y _ h1 hp2 hxp hyp) ?_
    go_wp2_with fail
    clear n1 n2 n3 n4 n5 n6 HIV HIE
    refine (next_any D R2 20 _ hD2 (by omega)).mono ?_
    rintro e w3 ⟨rfl, hD3, hg3⟩
    obtain ⟨m1, m2⟩ := nextV_range R2 20 (by omega)
    generalize nextV R2 20 = q1 at *
    have hDl := hD2.lt
    have hg3s := hg3.size
    go_wp2_with fail
    refine (next_any D R2.tail 20 _ hD3 (by omega)).mono ?_
    rintro e w4 ⟨rfl, hD4, hg4⟩
    obtain ⟨m3, m4⟩ := nextV_range R2.tail 20 (by omega)
    generalize nextV R2.tail 20 = q2 at *
    have hg24 := grown_trans hg3 hg4
    have hg4s := hg4.size
    clear hg3 hg4 hD3 hD2
    generalize R2.tail.tail = R4 at *
    go_wp2_with fail
    refine gen_world fun w5 hw5 => ?_
    obtain ⟨K, hK⟩ : ∃ K : List Int, K = [n, q1, -q2, (p : Int) - 1, -(p : Int), -9223372036854775808] := ⟨_, rfl⟩
    have hb45 : Below w4.heap.size w4 w5 := by rw [hw5]; exact below_alloc _ _
    have hI5 : IntsAt w5 (some ⟨w4.heap.size, 0, none⟩) K := by rw [hw5, hK]; exact lit_ints w4 [n, q1, -q2, (p : Int) - 1, -(p : Int), -9223372036854775808]
    have hKl : K.length = 6 := by rw [hK]; rfl
    have hKr : ∀ k, k < 6 → -9223372036854775808 ≤ nth K k ∧ nth K k ≤ 9223372036854775807 := by
      intro k hk
      rw [hK]
      have : k = 0 ∨ k = 1 ∨ k = 2 ∨ k = 3 ∨ k = 4 ∨ k = 5 := by omega
      rcases this with rfl | rfl | rfl | rfl | rfl | rfl <;> simp [nth] <;> omega
    have hD5 := hD4.below hb45
    have hg25 := grown_trans hg24 (grown_of_below (r := some D) hb45)
    have hs45 := hb45.size
    have HI5 := Lib.hid hI5
    have HKr := Lib.hid hKr
    clear hw5 hI5 hKr hK hD4 hg24 m1 m2 m3 m4 hb45
    go_loopw [121] (fun i wr => ∃ k : Nat, k ≤ 6 ∧ i = .int .i64 k ∧ wr = w5) (fun i _ => 6 - (intOf i).toNat)
    case atStart => exact ⟨0, by omega, rfl, rfl⟩
    case round =>
      obtain ⟨k, hk, rfl, rfl⟩ := hrel
      by_cases hk6 : k < 6
      · obtain ⟨bK, oK, eK, hbK, hcK⟩ := HI5.out k (by omega)
        injection eK with eK
        injection eK with eK1 eK2
        subst eK1; subst eK2
        rw [Nat.zero_add] at hcK
        obtain ⟨r1, r2⟩ := HKr.out k hk6
        generalize nth K k = q at *
        have n1 : ((powV p x q : Int) != (powV p x q : Int)) = false := by simp
        by_cases hq : q < 0
        · by_cases hx0 : x = 0
          · have HZ := Lib.hid (show powV p x q = 0 by rw [hx0]; exact powV_0 p q (by omega))
            have t1 : ((x : Int) == 0) = true := by simp; omega
            have t2 : (q != 0) = true := by simp; omega
            clear hx0
            go_wp2_with fail
            refine ret_pure (pow_any p x q _ h2 hp2 hxp r1 r2) ?_
            rw [HZ.out]
            go_wp2_with fail
            refine ret_pure (pow_any p x q _ h2 hp2 hxp r1 r2) ?_
            go_wp2_with fail
            refine ret_pure (refPow_any p x q _ HPP.out hp2 hxp r1 r2) ?_
            go_wp2_with fail
            go_roundw
            case rel => exact ⟨k + 1, by omega, by go_num, trivial⟩
            case measure => simp [intOf]; omega
          · have t1 : ((x : Int) == 0) = false := by simp; omega
            clear hx0
            go_wp2_with fail
            refine ret_pure (pow_any p x q _ h2 hp2 hxp r1 r2) ?_
            go_wp2_with fail
            refine ret_pure (refPow_any p x q _ HPP.out hp2 hxp r1 r2) ?_
            go_wp2_with fail
            go_roundw
            case rel => exact ⟨k + 1, by omega, by go_num, trivial⟩
            case measure => simp [intOf]; omega
        · go_wp2_with fail
          refine ret_pure (pow_any p x q _ h2 hp2 hxp r1 r2) ?_
          go_wp2_with fail
          refine ret_pure (refPow_any p x q _ HPP.out hp2 hxp r1 r2) ?_
          go_wp2_with fail
          go_roundw
          case rel => exact ⟨k + 1, by omega, by go_num, trivial⟩
          case measure => simp [intOf]; omega
      · clear HI5 HKr
        go_wp2_with fail
        refine (next_any D R4 6 _ hD5 (by omega)).mono ?_
        rintro e w6 ⟨rfl, hD6, hg6⟩
        obtain ⟨m1, m2⟩ := nextV_range R4 6 (by omega)
        generalize nextV R4 6 = q3 at *
        obtain ⟨q3, rfl⟩ := Int.eq_ofNat_of_zero_le m1
        have hD5l := hD5.lt
        have hg6s := hg6.size
        clear hD5
        generalize R4.tail = R6 at *
        go_wp2_with fail
        refine (elements_any D R6 p q3 _ hD6 h1 hp2 (by omega)).mono ?_
        rintro e w7 ⟨v7, LG, R7, rfl, hG7, hGp, hown7, hD7, hg7⟩
        obtain ⟨G, cg, rfl, hGn, hGb⟩ := NatsAt.of_own hown7 rfl
        have hGD : ∀ b off, G = some ⟨b, off, none⟩ → b ≠ D := fun b off e => by have := hGb b off e; omega
        have hGl : LG.length ≤ 6 := by omega
        have hg7s := hg7.size
        have hg27 := grown_trans hg25 (grown_trans hg6 hg7)
        clear hown7 hG7 hg6 hg7 hD6 hg25 m1 m2
        go_wp2_with fail
        refine (next_any D R7 6 _ hD7 (by omega)).mono ?_
        rintro e w8 ⟨rfl, hD8, hg8⟩
        obtain ⟨m1, m2⟩ := nextV_range R7 6 (by omega)
        generalize nextV R7 6 = q4 at *
        obtain ⟨q4, rfl⟩ := Int.eq_ofNat_of_zero_le m1
        have hg8s := hg8.size
        have hGn8 := hGn.grown hg8 hGD
        clear hD7 hGn
        generalize R7.tail = R8 at *
        go_wp2_with fail
        refine (elements_any D R8 p q4 _ hD8 h1 hp2 (by omega)).mono ?_
        rintro e w9 ⟨v9, LH, R9, rfl, hH9, hHp, hown9, hD9, hg9⟩
        obtain ⟨H, ch, rfl, hHn, hHb⟩ := NatsAt.of_own hown9 rfl
        have hGn9 := hGn8.grown hg9 hGD
        have hHl : LH.length ≤ 6 := by omega
        have hg29 := grown_trans hg27 (grown_trans hg8 hg9)
        have hbw9 : Below w.heap.size w w9 := hbw2.trans (grown_below hg29 hDs hbw2.size)
        have HB9 := Lib.hid (HB.out.keep hbw9)
        have HG := Lib.hid hGn9
        have HH := Lib.hid hHn
        have HGP := Lib.hid hGp
        have HHP := Lib.hid hHp
        have HI9 := Lib.hid (HI1.out.below hbw9)
        clear hown9 hH9 hg8 hg9 hD8 hD9 hg27 hg29 hGn8 hGn9 hHn hGp hHp hGb hHb hGD m1 m2 HB2 hbw2 HI1
        have b1 : (elemsI (p : Int) L1 true == elemsI (p : Int) L1 true) = true := by simp
        go_wp2_with fail
        refine ret_pure (elems_field A1 L1 c1 p _ HB9.out HI9.out (by omega)) ?_
        rw [HPV.out]
        go_wp2_with fail
        refine ret_pure (elems_ref A1 L1 c1 p _ HI9.out (by omega)) ?_
        rw [← HPW.out]
        generalize elemsI (p : Int) L1 true = eb at *
        go_wp2_with fail
        refine ret_pure (elems_nats G LG cg p _ HB9.out HG.out (by omega) HGP.out HPV.out) ?_
        go_wp2_with fail
        refine (linear_any p G H LG LH cg ch y _ h1 hp2 HG.out HH.out HGP.out HHP.out hyp (by omega) (by omega)).mono ?_
        rintro e w10 ⟨g10, rfl, hg10, hL10, hb10⟩
        have HL10 := Lib.hid (NatBlk.nats hL10)
        have hlen := linN_len p LG LH y
        have HLN := Lib.hid hlen
        clear hL10 hlen
        go_wp2_with fail
        refine (refLinear_any p G H LG LH cg ch y _ h1 hp2 (HG.out.below hb10) (HH.out.below hb10) HGP.out HHP.out hyp (by omega) (by omega)).mono ?_
        rintro e w11 ⟨v11, rfl, hown11, hb11⟩
        obtain ⟨M, cm, rfl, hMn, -⟩ := NatsAt.of_own hown11 rfl
        have HM := Lib.hid hMn
        have hbw11 : Below w.heap.size w w11 := hbw9.trans ((hb10.trans (hb11.mono hb10.size)).mono hbw9.size)
        have HB11 := Lib.hid (HB.out.keep hbw11)
        clear hown11 hMn
        go_wp2_with fail
        refine ret_pure (same_nats _ M (linN p LG LH y) (linN p LG LH y).length cm _ (HL10.out.below hb11) HM.out (by have := HLN.out; omega)) ?_
        go_wp2_with fail
        refine ret_pure (awake_any _ HB11.out) ?_
        go_wp2_with fail
        go_ret
        exact RetB.bool rfl hbw11
end Go.Proofs.YthbablmgpjjphaaDoor
