/-
  FieldLinear: the walk.
-/
import Derived.Test.YthbablmgpjjphaaDoorNats
import Derived.Test.YthbablmgpjjphaaDoorFieldLawsW
namespace Go.Proofs.YthbablmgpjjphaaDoor
open Go.RowKit

def backN (p : Nat) (A B : List Nat) (k : Nat) : List Nat := linN p (linN p A B k) B (fsub p 0 k)
theorem back_eq {p : Nat} (a b k : Nat) (ha : a < p) (hk : k < p) : fadd p (fadd p a (fmul p k b)) (fmul p (fsub p 0 k) b) = a := by
  unfold fadd fmul fsub
  rw [Nat.zero_add, Nat.mod_mul_mod, Nat.add_mod_mod a, Nat.mod_add_mod, Nat.add_mod_mod]
  rw [show a + k * b + (p - k) * b = a + p * b by
    rw [Nat.add_assoc, ← Nat.add_mul]; congr 2; omega]
  rw [Nat.add_mul_mod_self_left]; exact Nat.mod_eq_of_lt ha
theorem backN_len (p : Nat) (A B : List Nat) (k : Nat) : (backN p A B k).length = max A.length B.length := by
  unfold backN; rw [linN_len, linN_len]; omega
theorem backN_nth {p : Nat} (hp : 1 ≤ p) (A B : List Nat) (k i : Nat) (hA : ∀ x ∈ A, x < p) (hk : k < p) (hi : i < max A.length B.length) : nthN (backN p A B k) i = nthN A i := by
  unfold backN
  rw [linN_nth (by rw [linN_len]; omega), linN_nth hi, back_eq _ _ _ (nthN_lt hp hA i) hk]
theorem linN_nil {p : Nat} (hp : 1 ≤ p) (A : List Nat) (k : Nat) (hA : ∀ x ∈ A, x < p) : linN p A [] k = A := by
  refine extN (by rw [linN_len]; simp) fun i hi => ?_
  rw [linN_nth (by rw [linN_len] at hi; exact hi), nthN_ge (L := []) (by simp)]
  unfold fmul fadd
  rw [Nat.mul_zero, Nat.zero_mod, Nat.add_zero]; exact Nat.mod_eq_of_lt (nthN_lt hp hA i)

theorem linear_nil (p : Nat) (A : Option Addr) (L : List Nat) (ca c : Nat) (w : World) (hp : 1 ≤ p) (hp2 : p ≤ 2147483648) (hA : NatsAt w A L)
    (hL : ∀ x ∈ L, x < p) (hc : c < p) (hl : L.length ≤ 1073741824) :
    Calls Tryd.prog 24 #[.int .i64 p, .slice A L.length ca, .slice none 0 0, .int .i64 c] w (NewNats L w) := by
  have h := linear_any p A none L [] ca 0 c w hp hp2 hA (NatsAt.nil _ _) hL (by simp) hc hl (by simp)
  rw [linN_nil hp L c hL] at h; exact h

set_option maxRecDepth 100000 in
set_option maxHeartbeats 4000000 in
theorem fieldLinear_walk (A0 : Option Addr) (L0 : List Int) (c0 : Nat) (c : Int) (w : World) (hB : Bases w) (hl0 : L0.length ≤ maxLen) (hI0 : IntsAt w A0 L0) (_ : ∀ n ∈ L0, -9223372036854775808 ≤ n ∧ n ≤ 9223372036854775807) (_ : -9223372036854775808 ≤ c ∧ c ≤ 9223372036854775807) :
    Calls Tryd.prog 6 #[.slice A0 L0.length c0, .int .i64 c] w (RetB (.bool true) w) := by
  by_cases hlight : (L0.length : Int) ≤ 500
  · have hL := light_any A0 L0.length c0 w
    rw [decide_eq_true hlight] at hL
    have HLt := Lib.hid hL
    have HB := Lib.hid hB
    clear hL hlight hB
    go_enter Tryd.func6, Tryd.ntmps6
    go_wp2_with fail
    refine ret_pure HLt.out ?_
    clear HLt
    go_wp2_with fail
    refine (roll_any A0 L0 c0 _ hl0 hI0).mono ?_
    rintro e w1 ⟨D, rfl, hDs, hD, hb1⟩
    clear hI0
    go_wp2_with fail
    refine (prime_any D L0 _ hD).mono ?_
    rintro e w2 ⟨p, rfl, hpp, hp5, -, hD2, hg2⟩
    have hbw2 : Below w.heap.size w w2 := hb1.trans (grown_below hg2 hDs hb1.size)
    have HB2 := Lib.hid (HB.out.keep hbw2)
    have h2 := hpp.1
    have h1 : 1 ≤ p := by omega
    have hp2 : p ≤ 2147483648 := by omega
    have hs2 := hbw2.size
    clear hg2 hD hb1 hpp
    generalize L0.tail = R2 at hD2
    obtain ⟨k, hk, hkp⟩ := elem_of c h1
    have HK := Lib.hid hk
    clear hk
    go_wp2_with fail
    refine (next_any D R2 8 _ hD2 (by omega)).mono ?_
    rintro e w3 ⟨rfl, hD3, hg3⟩
    obtain ⟨n1, n2⟩ := nextV_range R2 8 (by omega)
    generalize nextV R2 8 = n at *
    obtain ⟨n, rfl⟩ := Int.eq_ofNat_of_zero_le n1
    have hDl := hD2.lt
    have hg3s := hg3.size
    go_wp2_with fail
    refine (elements_any D R2.tail p n _ hD3 h1 hp2 (by omega)).mono ?_
    rintro e w4 ⟨v4, LA, R4, rfl, hA4, hAp, hown4, hD4, hg4⟩
    obtain ⟨A, ca, rfl, hA, hAb⟩ := NatsAt.of_own hown4 rfl
    have hD3s := hD3.lt
    have hg4s := hg4.size
    have hAD : ∀ b off, A = some ⟨b, off, none⟩ → b ≠ D := fun b off e => by have := hAb b off e; omega
    have hg24 := grown_trans hg3 hg4
    have hAl : LA.length ≤ 8 := by omega
    clear hown4 hA4 hg3 hg4 hD3 hD2
    generalize R2.tail = R3 at *
    clear n1 n2
    go_wp2_with fail
    refine (next_any D R4 8 _ hD4 (by omega)).mono ?_
    rintro e w5 ⟨rfl, hD5, hg5⟩
    obtain ⟨n1, n2⟩ := nextV_range R4 8 (by omega)
    generalize nextV R4 8 = n at *
    obtain ⟨n, rfl⟩ := Int.eq_ofNat_of_zero_le n1
    have hg5s := hg5.size
    have hA5 := hA.grown hg5 hAD
    go_wp2_with fail
    refine (elements_any D R4.tail p n _ hD5 h1 hp2 (by omega)).mono ?_
    rintro e w6 ⟨v6, LB, R6, rfl, hB6, hBp, hown6, hD6, hg6⟩
    obtain ⟨B, cb, rfl, hBn, hBb⟩ := NatsAt.of_own hown6 rfl
    have hA6 := hA5.grown hg6 hAD
    have hg26 := grown_trans hg24 (grown_trans hg5 hg6)
    have hBl : LB.length ≤ 8 := by omega
    have hbw6 : Below w.heap.size w w6 := hbw2.trans (grown_below hg26 hDs hbw2.size)
    have HB6 := Lib.hid (HB.out.keep hbw6)
    have HAN := Lib.hid hA6
    have HBN := Lib.hid hBn
    have HAP := Lib.hid hAp
    have HBP := Lib.hid hBp
    have hg6s := hg6.size
    clear hown6 hB6 hg5 hg6 hD5 hD4 hD6 hg24 hg26 hA5 hA6 hBn hAp hBp hA n1 n2 hAb hBb hAD HB2 hbw2
    go_wp2_with fail
    refine ret_pure (mod_any c p _ (by omega)) ?_
    rw [HK.out]
    go_wp2_with fail
    refine (linear_any p A B LA LB ca cb k _ h1 hp2 HAN.out HBN.out HAP.out HBP.out hkp (by omega) (by omega)).mono ?_
    rintro e w7 ⟨g7, rfl, hg7, hL7, hb7⟩
    have hlen7 := linN_len p LA LB k
    have hlt7 := linN_lt h1 (A := LA) (B := LB) (c := k)
    obtain ⟨m, hm⟩ : ∃ m, m = max LA.length LB.length := ⟨_, rfl⟩
    have HM := Lib.hid hm
    have HL7 := Lib.hid hL7
    have HLT7 := Lib.hid hlt7
    have HLEN7 := Lib.hid hlen7
    have hm8 : m ≤ 8 := by omega
    have e1 : (((linN p LA LB k).length : Int) != max (LA.length : Int) (LB.length : Int)) = false := by simp; omega
    clear hlen7 hlt7 hL7 hm
    have hb67 : Below w.heap.size w w7 := hbw6.trans (hb7.mono hbw6.size)
    have hs67 := hb67.size
    go_wp2_with fail
    all_goals
      refine ret_pure (sub_nat p 0 k _ h1 hp2 (by omega) hkp) ?_
      go_wp2_with fail
      refine (linear_any p (some ⟨g7, 0, none⟩) B (linN p LA LB k) LB (linN p LA LB k).length cb (fsub p 0 k) _ h1 hp2 (NatBlk.nats HL7.out) (HBN.out.below hb7) HLT7.out HBP.out (fsub_lt h1 _ _) (by have := HLEN7.out; have := HM.out; omega) (by omega)).mono ?_
      rw [show linN p (linN p LA LB k) LB (fsub p 0 k) = backN p LA LB k from rfl]
      rintro e w8 ⟨g8, rfl, hg8, hL8, hb8⟩
      have HL8 := Lib.hid (NatBlk.nats hL8)
      have HBK := Lib.hid (fun i => backN_nth h1 LA LB k i HAP.out hkp)
      have hb68 : Below w.heap.size w w8 := hb67.trans (hb8.mono hb67.size)
      have HA8 := Lib.hid ((HAN.out.below hb7).below hb8)
      have hln := linN_len p LA LB k
      have hln8 := backN_len p LA LB k
      have e2 : (((backN p LA LB k).length : Int) == ((linN p LA LB k).length : Int)) = true := by simp; omega
      have HLN8 := Lib.hid hln8
      have hm1 : LA.length ≤ (backN p LA LB k).length := by omega
      have hm2 : (backN p LA LB k).length ≤ 8 := by have := HM.out; omega
      clear hL8 hln hln8
      go_wp2_with fail
      go_loopw [57] (fun i wr => ∃ (j : Nat), j ≤ (backN p LA LB k).length ∧ i = .int .i64 j ∧ wr = w8) (fun i _ => (backN p LA LB k).length - (intOf i).toNat)
      case atStart => exact ⟨0, by omega, rfl, rfl⟩
      case round =>
        obtain ⟨j, hj, rfl, rfl⟩ := hrel
        by_cases hlt : j < (backN p LA LB k).length
        · obtain ⟨b8, o8, e8, hlt8, hc8⟩ := HL8.out j hlt
          injection e8 with e8
          injection e8 with e81 e82
          subst e81; subst e82
          rw [Nat.zero_add, HBK.out j (by rw [← HLN8.out]; exact hlt)] at hc8
          by_cases hja : j < LA.length
          · obtain ⟨ba, oa, rfl, hlta, hca⟩ := HA8.out j hja
            have t1 : ((nthN LA j : Int) != (nthN LA j : Int)) = false := by simp
            go_wp2_with fail
            go_roundw
            case rel => exact ⟨j + 1, by omega, by go_num, trivial⟩
            case measure => simp [intOf]; omega
          · rw [nthN_ge (by omega)] at hc8
            go_wp2_with fail
            go_roundw
            case rel => exact ⟨j + 1, by omega, by go_num, trivial⟩
            case measure => simp [intOf]; omega
        · go_wp2_with fail
          refine (linear_nil p A LA ca k _ h1 hp2 HA8.out HAP.out hkp (by omega)).mono ?_
          rintro e w9 ⟨g9, rfl, hg9, hL9, hb9⟩
          have hb69 : Below w.heap.size w w9 := hb68.trans (hb9.mono hb68.size)
          have HB9 := Lib.hid (HB.out.keep hb69)
          have HL9 := Lib.hid (NatBlk.nats hL9)
          clear hL9
          go_wp2_with fail
          refine ret_pure (same_nats _ A LA LA.length ca _ HL9.out (HA8.out.below hb9) (by omega)) ?_
          go_wp2_with fail
          refine ret_pure (awake_any _ HB9.out) ?_
          go_wp2_with fail
          go_ret
          exact RetB.bool rfl hb69
  · have hL := light_any A0 L0.length c0 w
    rw [decide_eq_false hlight] at hL
    have HLt := Lib.hid hL
    have HB := Lib.hid hB
    clear hL hB
    go_enter Tryd.func6, Tryd.ntmps6
    go_wp2_with fail
    refine ret_pure HLt.out ?_
    go_wp2_with fail
    refine ret_pure (awake_any _ HB.out) ?_
    go_wp2
    go_ret
    exact RetB.bool rfl (Below.refl _ _)
end Go.Proofs.YthbablmgpjjphaaDoor
