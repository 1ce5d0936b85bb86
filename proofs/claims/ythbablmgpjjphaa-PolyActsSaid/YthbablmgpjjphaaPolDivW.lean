/-
  PolyDivides: the walk.
-/
import Derived.Test.YthbablmgpjjphaaPolX
namespace Go.Proofs.Ythbablmgpjjphaa
open Go.RowKit

theorem sliced_low (A : Option Addr) (h c s : Nat) : sliced A 0 h c s = .slice A h c := by
  unfold sliced
  cases A with
  | none => simp
  | some a => simp [Addr.add]
attribute [local go_sem high] sliced_low
theorem elements_at (D : Nat) (R : List Int) (p n : Nat) (k : Int) (w : World) (hk : k = (n : Int)) (h : DiceAt w D R) (hp : 1 ≤ p) (hp2 : p ≤ 2147483648) (hn : n ≤ 1048576) :
    Calls Try.prog 12 #[.pointer (some ⟨D, 0, none⟩), .int .i64 p, .int .i64 k] w (ElemsP D n p w) := by
  subst hk; exact elements_any D R p n w h hp hp2 hn
theorem shN_lt' {p : Nat} {L : List Nat} (h : ∀ x ∈ L, x < p) : ∀ x ∈ shN L, x < p := fun x hx => h x (List.mem_of_mem_take hx)
theorem dqN_lt {p : Nat} (hp : 1 ≤ p) {a b : List Nat} (ha : ∀ x ∈ a, x < p) : (∀ x ∈ quN p a b, x < p) ∧ ∀ x ∈ reN p a b, x < p := by
  by_cases h : dgN b = 0
  · obtain ⟨h1, h2, -⟩ := di_no (p := p) (a := a) h
    rw [h1, h2]; simp
  · obtain ⟨h1, h2, -⟩ := di_ok (p := p) (a := a) h
    have := dvN_lt hp b (dgN b - 1) (invV p (nthN b (dgN b - 1))) (a.length - (dgN b - 1)) a (List.replicate (a.length - (dgN b - 1)) 0) ha (fun x hx => by rw [List.mem_replicate] at hx; omega)
    rw [h1, h2]
    exact ⟨shN_lt' this.2, shN_lt' this.1⟩
theorem dqN_len (p : Nat) (a b : List Nat) : (quN p a b).length ≤ a.length ∧ (reN p a b).length ≤ a.length := by
  by_cases h : dgN b = 0
  · obtain ⟨h1, h2, -⟩ := di_no (p := p) (a := a) h
    rw [h1, h2]; simp
  · obtain ⟨h1, h2, -⟩ := di_ok (p := p) (a := a) h
    have := dvN_len p b (dgN b - 1) (invV p (nthN b (dgN b - 1))) (a.length - (dgN b - 1)) a (List.replicate (a.length - (dgN b - 1)) 0)
    simp only [List.length_replicate] at this
    have h3 := dgN_le (dqN p a b).1
    have h4 := dgN_le (dqN p a b).2
    rw [h1, h2, shN_len, shN_len]
    unfold dqN at *
    omega
/-- What PolyDivides says of lists. -/
theorem div_law {p : Nat} (hp : PrimeN p) {a b : List Nat} (ha : ∀ x ∈ a, x < p) (hb : ∀ x ∈ b, x < p) (h : ¬ dgN b = 0) :
    shN (linN p (mulN p (quN p a b) b) (reN p a b) 1) = shN a ∧ dgN (reN p a b) < dgN b ∧ ((quN p a b).length = 0 ∨ nthN (quN p a b) ((quN p a b).length - 1) ≠ 0) := by
  obtain ⟨d, hd⟩ : ∃ d, dgN b = d + 1 := ⟨dgN b - 1, by omega⟩
  obtain ⟨h1, h2, -⟩ := di_ok (p := p) (a := a) h
  have hbd : nthN b d ≠ 0 := by have := dgN_top b (by omega); rw [hd] at this; exact this
  have := divides hp ha hb hbd (fun k hk => dgN_above b k (by omega)) (r := (dqN p a b).1) (q := (dqN p a b).2) (by rw [← dqN_d hd])
  have h3 : fone p = 1 := Nat.mod_eq_of_lt (by have := hp.1; omega)
  rw [h3] at this
  rw [h1, h2]
  refine ⟨this.1, by rw [dgN_sh]; omega, ?_⟩
  by_cases hl : (shN (dqN p a b).2).length = 0
  · exact .inl hl
  · exact .inr (shN_last (by omega))

set_option maxRecDepth 100000 in
set_option maxHeartbeats 4000000 in
theorem polyDivides_walk (A0 : Option Addr) (L0 : List Int) (c0 : Nat) (w : World) (hl0 : L0.length ≤ maxLen) (hI0 : IntsAt w A0 L0) (_ : ∀ n ∈ L0, -9223372036854775808 ≤ n ∧ n ≤ 9223372036854775807) :
    Calls Try.prog 4 #[.slice A0 L0.length c0] w (RetB (.bool true) w) := by
  by_cases hlight : (L0.length : Int) ≤ 500
  · have hL := light_any A0 L0.length c0 w
    rw [decide_eq_true hlight] at hL
    have HLt := Lib.hid hL
    clear hL hlight
    go_enter Try.func4, Try.ntmps4
    go_wp2_with fail
    refine ret_pure HLt.out ?_
    clear HLt
    go_wp2_with fail
    refine (roll_any A0 L0 c0 _ hl0 hI0).mono ?_
    rintro e w1 ⟨D, rfl, hDs, hD, hb1⟩
    have hE1 : Env w w1 D L0 := ⟨hD, hDs, hb1⟩
    clear hI0 hD hDs hb1
    go_wp2_with fail
    refine (prime_any D L0 _ hE1.dice).mono ?_
    rintro e w2 ⟨p, rfl, hpp, hp5, -, hD2, hg2⟩
    have hE2 := hE1.next hD2 hg2
    have h2 := hpp.1
    have h1 : 1 ≤ p := by omega
    have hp2 : p ≤ 2147483648 := by omega
    have HPP := Lib.hid hpp
    clear hg2 hD2 hE1 hpp
    go_wp2_with fail
    refine (next_nat D _ 9 _ hE2.dice (by omega) (by omega)).mono ?_
    rintro e w3 ⟨n, rfl, hn, hD3, hg3⟩
    have hE3 := hE2.next hD3 hg3
    clear hD3 hg3 hE2
    go_wp2_with fail
    refine (elements_any D _ p n _ hE3.dice h1 hp2 (by omega)).mono ?_
    intro e w4 he
    obtain ⟨A, ca, LA, R4, rfl, hAl, hAp, hA, hD4, hg4⟩ := elems_held hE3.lt he
    have hE4 := hE3.next hD4 hg4
    have HAP := Lib.hid hAp
    have hal : LA.length ≤ 8 := by omega
    clear he hD4 hg4 hE3 hAp hAl hn
    go_wp2_with fail
    refine (next_nat D _ 5 _ hE4.dice (by omega) (by omega)).mono ?_
    rintro e w5 ⟨n, rfl, hn, hD5, hg5⟩
    have hE5 := hE4.next hD5 hg5
    have hA5 := hA.mv hg5
    clear hD5 hg5 hE4 hA
    go_wp2_with fail
    refine (elements_at D _ p (1 + n) _ _ (by omega) hE5.dice h1 hp2 (by omega)).mono ?_
    intro e w6 he
    obtain ⟨B, cb, LB, R6, rfl, hBl, hBp, hB, hD6, hg6⟩ := elems_held hE5.lt he
    have hE6 := hE5.next hD6 hg6
    have hA6 := hA5.mv hg6
    have HBP := Lib.hid hBp
    have hbl : LB.length ≤ 8 := by omega
    clear he hD6 hg6 hE5 hBp hBl hn hA5
    have HA6 := Lib.hid hA6
    have HB6 := Lib.hid hB
    clear hA6 hB
    go_wp2_with fail
    have hdl := dqN_len p LA LB
    have hdp := dqN_lt h1 (b := LB) HAP.out
    have hdv := divide_any p A B LA LB ca cb w6 h2 hp2 HA6.out.nats HA6.out.ok HB6.out.nats HB6.out.ok HAP.out HBP.out (by omega) (by omega)
    obtain ⟨hg1, hg2⟩ := dgI_ge LB
    have HDG := Lib.hid (dgI_succ LB)
    by_cases h0 : dgN LB = 0
    · obtain ⟨k1, k2, k3⟩ := di_no (p := p) (a := LA) h0
      rw [k1, k2, k3] at hdv
      have t1 : decide (dgI LB < 0) = true := decide_eq_true (by have := HDG.out; omega)
      have HDV := Lib.hid hdv
      clear k1 k2 k3 hdv h0 hdl hdp hg1 hg2
      refine HDV.out.mono ?_
      rintro e w7 ⟨QA, qc, RA, rc, rfl, -, -, -, -, hb7⟩
      have hE7 := hE6.mv hb7
      go_wp2_with fail
      refine ret_below (degree_any B LB cb _ (HB6.out.nats.below hb7) (by omega)) ?_
      intro w8 hb8
      have hE8 := hE7.mv hb8
      go_wp2_with fail
      refine ret_below (awake_any _) ?_
      intro w9 hb9
      have hbf := below_trans hE8.below hb9
      go_wp2_with fail
      go_ret
      exact RetB.bool rfl hbf
    · obtain ⟨k1, k2, k3⟩ := div_law HPP.out HAP.out HBP.out h0
      have kE := (di_ok (p := p) (a := LA) h0).2.2
      rw [kE] at hdv
      have hreg := dgI_succ (reN p LA LB)
      have t1 : decide (dgI LB < 0) = false := decide_eq_false (by have := HDG.out; omega)
      have t2 : decide (dgI (reN p LA LB) < dgI LB) = true := decide_eq_true (by have := HDG.out; omega)
      have HK1 := Lib.hid k1
      have HK3 := Lib.hid k3
      have HDV := Lib.hid hdv
      have HQP := Lib.hid hdp.1
      have HRP := Lib.hid hdp.2
      obtain ⟨hql, hrl⟩ := hdl
      have hmlen := mulN_len p (quN p LA LB) LB
      clear k1 k2 k3 kE hdv h0 hdp hreg hg1 hg2
      generalize quN p LA LB = q at *
      generalize reN p LA LB = r at *
      refine HDV.out.mono ?_
      rintro e w7 ⟨QA, qc, RA, rc, rfl, hQ, hQS, hR, hRS, hb7⟩
      have hE7 := hE6.mv hb7
      have HQ := Lib.hid hQ
      have HR := Lib.hid hR
      clear HDV hQ hR hQS hRS hE6
      go_wp2_with fail
      refine ret_below (degree_any B LB cb _ (HB6.out.nats.below hb7) (by omega)) ?_
      intro w8 hb8
      have hE8 := hE7.mv hb8
      have hb68 := below_trans hb7 hb8
      clear hE7
      go_wp2_with fail
      refine (pmul_any p QA B q LB qc cb _ h1 hp2 (HQ.out.below hb8) (HB6.out.nats.below hb68) HQP.out HBP.out (by omega) (by omega)).mono ?_
      intro e w9 hnl
      obtain ⟨MA, mc, rfl, hM, hMS, -, hb9⟩ := hnl.open_
      have HM := Lib.hid hM
      have hE9 := hE8.mv hb9
      clear hnl hM hMS hE8
      go_wp2_with fail
      have HLP := Lib.hid (linN_lt h1 (A := mulN p q LB) (B := r) (c := 1))
      have hll := linN_len p (mulN p q LB) r 1
      refine (refLinear_any p MA RA (mulN p q LB) r mc rc 1 _ h1 hp2 HM.out ((HR.out.below hb8).below hb9) (mulN_lt h1 _ _) HRP.out (by omega) (by omega) (by omega)).mono ?_
      intro e w10 hnl
      obtain ⟨XA, xc, rfl, hX, hXS, -, hb10⟩ := hnl.open_
      have hE10 := hE9.mv hb10
      have hb710 := below_trans (below_trans hb8 hb9) hb10
      have hb610 := below_trans hb7 hb710
      have hxl : (linN p (mulN p q LB) r 1).length ≤ 100 := by rw [hll]; omega
      clear hnl hE9 hll hb8 hb9 hb10 hb68 hmlen
      generalize linN p (mulN p q LB) r 1 = X at *
      have HX := Lib.hid hX
      have HA10 := Lib.hid (HA6.out.nats.below hb610)
      have HB10 := Lib.hid (HB6.out.nats.below hb610)
      have HR10 := Lib.hid (HR.out.below hb710)
      have HQ10 := Lib.hid (HQ.out.below hb710)
      obtain ⟨K, hK⟩ : ∃ K, K = dgN LA := ⟨_, rfl⟩
      have hKX : dgN X = K := by rw [hK, ← shN_len, HK1.out, shN_len]
      have hKl : K ≤ LA.length := by rw [hK]; exact dgN_le LA
      have hKx : K ≤ X.length := by rw [← hKX]; exact dgN_le X
      have e1 : IntKind.i64.wrap (dgI X + 1) = (K : Int) := by rw [dgI_succ, hKX]; exact IntWalk.i64_in _ (by omega)
      have e2 : IntKind.i64.wrap (dgI LA + 1) = (K : Int) := by rw [dgI_succ, ← hK]; exact IntWalk.i64_in _ (by omega)
      have i1 : (0 : Int) ≤ (K : Int) := by omega
      have i2 : (K : Int) ≤ (xc : Int) := by have := hXS.len; omega
      have i3 : (K : Int) ≤ (ca : Int) := by have := HA6.out.ok.len; omega
      have hsm : ∀ W, Below w10.heap.size w10 W → Calls Try.prog 20 #[.slice XA K xc, .slice A K ca] W (Ret (.bool true) W) := fun W hb => by
        have h1 : NatsAt W XA (shN LA) := by rw [← HK1.out]; exact (HX.out.below hb).take _
        have h2 : NatsAt W A (shN LA) := (HA10.out.below hb).take _
        have := same_nats XA A (shN LA) xc ca W h1 h2 (by rw [shN_len, ← hK]; omega)
        rw [shN_len, ← hK] at this
        exact this
      have HSM := Lib.hid hsm
      clear hX hXS hK hKX hsm hKl hKx HK1
      go_wp2_with fail
      rcases Nat.eq_zero_or_pos q.length with hq0 | hq0
      · have t3 : ((q.length : Int) == 0) = true := by simp [hq0]
        clear hq0
        refine wp_region_grew (by kernel_rfl) (by kernel_rfl) ?_
        repeat (go_big_quiet_step ((first
          | (go_at_call 18; exact grew_of (degree_any _ _ _ _ (by first | exact HR10.out.below (grewW.below _ _) | exact HB10.out.below (grewW.below _ _) | exact HX.out.below (grewW.below _ _) | exact HA10.out.below (grewW.below _ _)) (by omega)))
          | (go_at_call 20; exact grew_same (HSM.out _ (grewW.below _ _)))
          | (go_at_call 9; exact grew_of (awake_any _)))))
        refine wpQuiet_nil ?_
        intro w11 hb11
        have hbf := below_trans hE10.below hb11
        go_wp2
        go_ret
        exact RetB.bool rfl hbf
      · have t3 : ((q.length : Int) == 0) = false := beq_eq_false_iff_ne.2 (by omega)
        obtain ⟨l1, hl1⟩ : ∃ l1, l1 = q.length - 1 := ⟨_, rfl⟩
        obtain ⟨bQ, oQ, rfl, hbQ, hcQ⟩ := HQ10.out l1 (by omega)
        have t4 : ((nthN q l1 : Int) != 0) = true := by
          have := HK3.out
          rw [← hl1] at this
          simp; omega
        have e3 : IntKind.i64.wrap ((q.length : Int) - 1) = (l1 : Int) := (IntWalk.i64_in _ (by omega)).trans (by omega)
        have i4 : (0 : Int) ≤ (l1 : Int) := by omega
        have i5 : (l1 : Int) < (q.length : Int) := by omega
        clear hl1 hq0
        refine wp_region_grew (by kernel_rfl) (by kernel_rfl) ?_
        repeat (go_big_quiet_step ((first
          | (go_at_call 18; exact grew_of (degree_any _ _ _ _ (by first | exact HR10.out.below (grewW.below _ _) | exact HB10.out.below (grewW.below _ _) | exact HX.out.below (grewW.below _ _) | exact HA10.out.below (grewW.below _ _)) (by omega)))
          | (go_at_call 20; exact grew_same (HSM.out _ (grewW.below _ _)))
          | (go_at_call 9; exact grew_of (awake_any _)))))
        refine wpQuiet_nil ?_
        intro w11 hb11
        have hbf := below_trans hE10.below hb11
        go_wp2
        go_ret
        exact RetB.bool rfl hbf
  · have hL := light_any A0 L0.length c0 w
    rw [decide_eq_false hlight] at hL
    have HLt := Lib.hid hL
    clear hL
    go_enter Try.func4, Try.ntmps4
    go_wp2_with fail
    refine ret_pure HLt.out ?_
    go_wp2_with fail
    refine ret_below (awake_any _) ?_
    intro w1 hb1
    go_wp2
    go_ret
    exact RetB.bool rfl hb1
end Go.Proofs.Ythbablmgpjjphaa
