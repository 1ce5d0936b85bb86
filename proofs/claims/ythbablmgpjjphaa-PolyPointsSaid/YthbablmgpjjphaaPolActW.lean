/-
  PolyActs: the walk.
-/
import Derived.Test.YthbablmgpjjphaaPolDivW
namespace Go.Proofs.Ythbablmgpjjphaa
open Go.RowKit

attribute [local go_sem high] sliced_low

/-- A list made before the base of an append stands. -/
theorem NatsAt.app {w0 w w' : World} {A : Option Addr} {L : List Nat} (h0 : NatsAt w0 A L) (h : NatsAt w A L) (hb : Below w0.heap.size w w') : NatsAt w' A L := fun k hk => by
  obtain ⟨b, off, hA, hlt, -⟩ := h0 k hk
  obtain ⟨b', off', hA', hlt', hc⟩ := h k hk
  rw [hA] at hA'; injection hA' with e; injection e with e1 e2; subst e1; subst e2
  exact ⟨b, off, hA, Nat.lt_of_lt_of_le hlt' hb.size, (hb.cell hlt).trans hc⟩
theorem Held.app {w0 w w' : World} {D : Nat} {A : Option Addr} {c : Nat} {L : List Nat} (h0 : NatsAt w0 A L) (h : Held w D A c L) (hb : Below w0.heap.size w w') : Held w' D A c L := ⟨h0.app h.nats hb, h.ok, h.off⟩
theorem Env.app {w0 w w' : World} {D B : Nat} {R : List Int} (h : Env w0 w D R) (hB : D < B) (hb : Below B w w') : Env w0 w' D R :=
  ⟨h.dice.keep fun k hk => hb.block k (by omega), h.low, h.below.trans (hb.mono (by have := h.low; omega))⟩
theorem app_lt {p : Nat} {L M : List Nat} (h : ∀ x ∈ L, x < p) (g : ∀ x ∈ M, x < p) : ∀ x ∈ L ++ M, x < p := fun x hx => (List.mem_append.1 hx).elim (h x) (g x)
theorem own_held {w : World} {base D : Nat} {v : Value} {L : List Nat} (h : w.ownsRow base 3 1 v L.length (valsN L)) (hD : D < base) : ∃ A c, v = .slice A L.length c ∧ Held w D A c L := by
  obtain ⟨A, c, rfl, h1, h2, h3⟩ := own_sl h rfl
  exact ⟨A, c, rfl, h1, h2, fun b off e => by have := h3 b off e; omega⟩

set_option maxRecDepth 100000 in
set_option maxHeartbeats 4000000 in
theorem polyActs_walk (A0 : Option Addr) (L0 : List Int) (c0 : Nat) (w : World) (hl0 : L0.length ≤ maxLen) (hI0 : IntsAt w A0 L0) (_ : ∀ n ∈ L0, -9223372036854775808 ≤ n ∧ n ≤ 9223372036854775807) :
    Calls Try.prog 3 #[.slice A0 L0.length c0] w (RetB (.bool true) w) := by
  by_cases hlight : (L0.length : Int) ≤ 500
  · have hL := light_any A0 L0.length c0 w
    rw [decide_eq_true hlight] at hL
    have HLt := Lib.hid hL
    clear hL hlight
    go_enter Try.func3, Try.ntmps3
    go_wp2_with fail
    refine ret_pure HLt.out ?_
    clear HLt
    go_wp2_with fail
    refine (roll_any A0 L0 c0 _ hl0 hI0).mono ?_
    rintro e w1 ⟨D, rfl, hDs, hD, hb1⟩
    have hE1 : Env w w1 D L0 := ⟨hD, hDs, hb1⟩
    clear hI0 hD hDs hb1
    go_wp2_with fail
    refine (prime_any D L0 _ hE1.dice).mono ?_
    rintro e w2 ⟨p, rfl, hpp, hp5, -, hD2, hg2⟩
    have hE2 := hE1.next hD2 hg2
    have h2 := hpp.1
    have h1 : 1 ≤ p := by omega
    have hp2 : p ≤ 2147483648 := by omega
    have HPP := Lib.hid hpp
    clear hg2 hD2 hE1 hpp
    go_wp2_with fail
    refine (next_nat D _ 8 _ hE2.dice (by omega) (by omega)).mono ?_
    rintro e w3 ⟨n, rfl, hn, hD3, hg3⟩
    have hE3 := hE2.next hD3 hg3
    clear hD3 hg3 hE2
    go_wp2_with fail
    refine (elements_any D _ p n _ hE3.dice h1 hp2 (by omega)).mono ?_
    intro e w4 he
    obtain ⟨A, ca, LA, R4, rfl, hAl, hAp, hA, hD4, hg4⟩ := elems_held hE3.lt he
    have hE4 := hE3.next hD4 hg4
    have HAP := Lib.hid hAp
    have hal : LA.length ≤ 8 := by omega
    clear he hD4 hg4 hE3 hAp hAl hn
    go_wp2_with fail
    refine (next_nat D _ 5 _ hE4.dice (by omega) (by omega)).mono ?_
    rintro e w5 ⟨n, rfl, hn, hD5, hg5⟩
    have hE5 := hE4.next hD5 hg5
    have hA5 := hA.mv hg5
    clear hD5 hg5 hE4 hA
    go_wp2_with fail
    refine (elements_any D _ p n _ hE5.dice h1 hp2 (by omega)).mono ?_
    rintro e w6 ⟨v, LB0, R6, rfl, hBl, hBp, hown, hD6, hg6⟩
    have hE6 := hE5.next hD6 hg6
    have hA6 := hA5.mv hg6
    have HA5 := Lib.hid hA5.nats
    have HBP0 := Lib.hid hBp
    have hbl0 : LB0.length ≤ 4 := by omega
    have hD5 := hE5.lt
    have hs6 := hg6.size
    have hvo : ∀ b, v.ownBlock = some b → w5.heap.size ≤ b := fun b hb => (hown.lt b hb).1
    clear hD6 hg6 hE5 hBp hBl hn hA5
    go_wp2_with fail
    refine (next_nat D _ 3 _ hE6.dice (by omega) (by omega)).mono ?_
    rintro e w7 ⟨m, rfl, hm, hD7, hg7⟩
    have hE7 := hE6.next hD7 hg7
    have hA7 := hA6.mv hg7
    have hown7 := hown.kept hg7 (.inr (fun e => by have := hvo D e; omega))
    have hs7 := hg7.size
    have HVO := Lib.hid hvo
    clear hD7 hg7 hE6 hA6 hown hvo
    by_cases hm1 : m = 1
    · have t1 : ((m : Int) == 1) = true := by simp; omega
      clear hm1 hm
      go_wp2_with (at_builtin; refine app_nats rfl (.tmp 35) (.tmp 36) rfl (base := w5.heap.size) (S := LB0) (T := [0, 0]) rfl (hown7.alloc _) rfl ((lit2_nats w7 0 0).nats.news rfl) (by simp; omega) (by simp; omega) ?_; intro v8 w8 hown8 hg8 hb8')
      have hb8 : Below w5.heap.size w7 w8 := below_of_alloc hb8' (by omega)
      have hE8 := hE7.app (by omega) hb8
      have hA8 := Held.app HA5.out hA7 hb8
      obtain ⟨B, cb, rfl, hB8⟩ := own_held hown8 hD5
      have HBP := Lib.hid (app_lt HBP0.out (show ∀ x ∈ [0, 0], x < p by simp; omega))
      have hbl : (LB0 ++ [0, 0]).length ≤ 6 := by simp; omega
      clear hb8' hg8 hown8 hown7 hE7 hA7 hb8 HVO HBP0
      generalize LB0 ++ [0, 0] = LB at *
      go_wp2_with fail
      refine (next_nat D _ p _ hE8.dice (by omega) (by omega)).mono ?_
      rintro e w9 ⟨x, rfl, hx, hD9, hg9⟩
      have hE9 := hE8.next hD9 hg9
      have hxp : x < p := by omega
      have HA9 := Lib.hid (hA8.mv hg9)
      have HB9 := Lib.hid (hB8.mv hg9)
      clear hD9 hg9 hE8 hA8 hB8 hx
      go_wp2_with fail
      have hdl := dqN_len p LA LB
      refine (divide_any p A B LA LB ca cb _ h2 hp2 HA9.out.nats HA9.out.ok HB9.out.nats HB9.out.ok HAP.out HBP.out (by omega) (by omega)).mono ?_
      rintro e w10 ⟨QA, qc, RA, rc, rfl, hQ, hQS, hR, hRS, hb10⟩
      have hE10 := hE9.mv hb10
      have HQ := Lib.hid hQ
      have HR := Lib.hid hR
      have HA10 := Lib.hid (HA9.out.below hb10)
      have HB10 := Lib.hid (HB9.out.below hb10)
      clear hQ hR hQS hRS hE9 HA9 HB9 hb10
      go_wp2_with fail
      refine (refDivide_any p A B LA LB ca cb _ HPP.out hp2 HA10.out.nats HA10.out.ok HB10.out.nats HAP.out HBP.out (by omega) (by omega)).mono ?_
      rintro e w11 ⟨QA', qc', RA', rc', rfl, hQ, hQS, hR, hRS, hb11⟩
      have hE11 := hE10.mv hb11
      have HQ1 := Lib.hid (HQ.out.below hb11)
      have HR1 := Lib.hid (HR.out.below hb11)
      have HQ' := Lib.hid hQ
      have HR' := Lib.hid hR
      have HA11 := Lib.hid (HA10.out.below hb11)
      have HB11 := Lib.hid (HB10.out.below hb11)
      clear hQ hR hQS hRS hE10 HA10 HB10 hb11 HQ HR
      generalize quN p LA LB = q at *
      generalize reN p LA LB = r at *
      generalize diE LB = er at *
      go_wp2_with fail
      refine ret_below (eval_any p x A LA ca _ h1 hp2 hxp HAP.out HA11.out.nats (by omega)) ?_
      intro w12 hb12
      go_wp2_with fail
      refine ret_pure (refEval_any p x A LA ca _ h1 hp2 hxp HAP.out (HA11.out.nats.below hb12) (by omega)) ?_
      generalize evN p LA x = v at *
      go_wp2_with fail
      refine ret_below (degree_any A LA ca _ (HA11.out.nats.below hb12) (by omega)) ?_
      intro w13 hb13
      have hc13 := below_trans hb12 hb13
      clear hb12 hb13
      go_wp2_with fail
      refine ret_pure (refDegree_any A LA ca _ (HA11.out.nats.below hc13) (by omega)) ?_
      generalize dgI LA = da at *
      go_wp2_with fail
      refine ret_below (degree_any B LB cb _ (HB11.out.nats.below hc13) (by omega)) ?_
      intro w14 hb14
      have hc14 := below_trans hc13 hb14
      clear hb14 hc13
      go_wp2_with fail
      refine ret_pure (refDegree_any B LB cb _ (HB11.out.nats.below hc14) (by omega)) ?_
      generalize dgI LB = db at *
      go_wp2_with fail
      have hml := mulN_len p LA LB
      refine (pmul_any p A B LA LB ca cb _ h1 hp2 (HA11.out.nats.below hc14) (HB11.out.nats.below hc14) HAP.out HBP.out (by omega) (by omega)).mono ?_
      intro e w15 hnl
      obtain ⟨MA, mc, rfl, hM, hMS, -, hb15⟩ := hnl.open_
      have HM := Lib.hid hM
      have hc15 := below_trans hc14 hb15
      clear hnl hM hMS hb15 hc14
      go_wp2_with fail
      refine (refMul_any p A B LA LB ca cb _ h1 hp2 (HA11.out.nats.below hc15) (HB11.out.nats.below hc15) HAP.out HBP.out (by omega) (by omega)).mono ?_
      intro e w16 hnl
      obtain ⟨MB, mc', rfl, hM, hMS, -, hb16⟩ := hnl.open_
      have HM1 := Lib.hid (HM.out.below hb16)
      have HM' := Lib.hid hM
      have hc16 := below_trans hc15 hb16
      clear hnl hM hMS hb16 hc15 HM
      generalize mulN p LA LB = M at *
      go_wp2_with fail
      refine ret_pure (same_nats MA MB M mc mc' _ HM1.out HM'.out (by omega)) ?_
      go_wp2_with fail
      refine ret_pure (same_nats QA QA' q qc qc' _ (HQ1.out.below hc16) (HQ'.out.below hc16) (by omega)) ?_
      go_wp2_with fail
      refine ret_pure (same_nats RA RA' r rc rc' _ (HR1.out.below hc16) (HR'.out.below hc16) (by omega)) ?_
      have hE16 := hE11.mv hc16
      clear hE11
      go_wp2_with fail
      refine ret_below (awake_any _) ?_
      intro w17 hb17
      have hbf := below_trans hE16.below hb17
      go_wp2_with fail
      go_ret
      exact RetB.bool rfl hbf
    · have t1 : ((m : Int) == 1) = false := beq_eq_false_iff_ne.2 (by omega)
      clear hm1 hm
      obtain ⟨B, cb, rfl, hB8⟩ := own_held hown7 hD5
      have hE8 := hE7
      have hA8 := hA7
      have HBP := HBP0
      have hbl : LB0.length ≤ 6 := by omega
      clear hown7 hE7 hA7 HVO HBP0
      generalize LB0 = LB at *
      go_wp2_with fail
      refine (next_nat D _ p _ hE8.dice (by omega) (by omega)).mono ?_
      rintro e w9 ⟨x, rfl, hx, hD9, hg9⟩
      have hE9 := hE8.next hD9 hg9
      have hxp : x < p := by omega
      have HA9 := Lib.hid (hA8.mv hg9)
      have HB9 := Lib.hid (hB8.mv hg9)
      clear hD9 hg9 hE8 hA8 hB8 hx
      go_wp2_with fail
      have hdl := dqN_len p LA LB
      refine (divide_any p A B LA LB ca cb _ h2 hp2 HA9.out.nats HA9.out.ok HB9.out.nats HB9.out.ok HAP.out HBP.out (by omega) (by omega)).mono ?_
      rintro e w10 ⟨QA, qc, RA, rc, rfl, hQ, hQS, hR, hRS, hb10⟩
      have hE10 := hE9.mv hb10
      have HQ := Lib.hid hQ
      have HR := Lib.hid hR
      have HA10 := Lib.hid (HA9.out.below hb10)
      have HB10 := Lib.hid (HB9.out.below hb10)
      clear hQ hR hQS hRS hE9 HA9 HB9 hb10
      go_wp2_with fail
      refine (refDivide_any p A B LA LB ca cb _ HPP.out hp2 HA10.out.nats HA10.out.ok HB10.out.nats HAP.out HBP.out (by omega) (by omega)).mono ?_
      rintro e w11 ⟨QA', qc', RA', rc', rfl, hQ, hQS, hR, hRS, hb11⟩
      have hE11 := hE10.mv hb11
      have HQ1 := Lib.hid (HQ.out.below hb11)
      have HR1 := Lib.hid (HR.out.below hb11)
      have HQ' := Lib.hid hQ
      have HR' := Lib.hid hR
      have HA11 := Lib.hid (HA10.out.below hb11)
      have HB11 := Lib.hid (HB10.out.below hb11)
      clear hQ hR hQS hRS hE10 HA10 HB10 hb11 HQ HR
      generalize quN p LA LB = q at *
      generalize reN p LA LB = r at *
      generalize diE LB = er at *
      go_wp2_with fail
      refine ret_below (eval_any p x A LA ca _ h1 hp2 hxp HAP.out HA11.out.nats (by omega)) ?_
      intro w12 hb12
      go_wp2_with fail
      refine ret_pure (refEval_any p x A LA ca _ h1 hp2 hxp HAP.out (HA11.out.nats.below hb12) (by omega)) ?_
      generalize evN p LA x = v at *
      go_wp2_with fail
      refine ret_below (degree_any A LA ca _ (HA11.out.nats.below hb12) (by omega)) ?_
      intro w13 hb13
      have hc13 := below_trans hb12 hb13
      clear hb12 hb13
      go_wp2_with fail
      refine ret_pure (refDegree_any A LA ca _ (HA11.out.nats.below hc13) (by omega)) ?_
      generalize dgI LA = da at *
      go_wp2_with fail
      refine ret_below (degree_any B LB cb _ (HB11.out.nats.below hc13) (by omega)) ?_
      intro w14 hb14
      have hc14 := below_trans hc13 hb14
      clear hb14 hc13
      go_wp2_with fail
      refine ret_pure (refDegree_any B LB cb _ (HB11.out.nats.below hc14) (by omega)) ?_
      generalize dgI LB = db at *
      go_wp2_with fail
      have hml := mulN_len p LA LB
      refine (pmul_any p A B LA LB ca cb _ h1 hp2 (HA11.out.nats.below hc14) (HB11.out.nats.below hc14) HAP.out HBP.out (by omega) (by omega)).mono ?_
      intro e w15 hnl
      obtain ⟨MA, mc, rfl, hM, hMS, -, hb15⟩ := hnl.open_
      have HM := Lib.hid hM
      have hc15 := below_trans hc14 hb15
      clear hnl hM hMS hb15 hc14
      go_wp2_with fail
      refine (refMul_any p A B LA LB ca cb _ h1 hp2 (HA11.out.nats.below hc15) (HB11.out.nats.below hc15) HAP.out HBP.out (by omega) (by omega)).mono ?_
      intro e w16 hnl
      obtain ⟨MB, mc', rfl, hM, hMS, -, hb16⟩ := hnl.open_
      have HM1 := Lib.hid (HM.out.below hb16)
      have HM' := Lib.hid hM
      have hc16 := below_trans hc15 hb16
      clear hnl hM hMS hb16 hc15 HM
      generalize mulN p LA LB = M at *
      go_wp2_with fail
      refine ret_pure (same_nats MA MB M mc mc' _ HM1.out HM'.out (by omega)) ?_
      go_wp2_with fail
      refine ret_pure (same_nats QA QA' q qc qc' _ (HQ1.out.below hc16) (HQ'.out.below hc16) (by omega)) ?_
      go_wp2_with fail
      refine ret_pure (same_nats RA RA' r rc rc' _ (HR1.out.below hc16) (HR'.out.below hc16) (by omega)) ?_
      have hE16 := hE11.mv hc16
      clear hE11
      go_wp2_with fail
      refine ret_below (awake_any _) ?_
      intro w17 hb17
      have hbf := below_trans hE16.below hb17
      go_wp2_with fail
      go_ret
      exact RetB.bool rfl hbf
  · have hL := light_any A0 L0.length c0 w
    rw [decide_eq_false hlight] at hL
    have HLt := Lib.hid hL
    clear hL
    go_enter Try.func3, Try.ntmps3
    go_wp2_with fail
    refine ret_pure HLt.out ?_
    go_wp2_with fail
    refine ret_below (awake_any _) ?_
    intro w1 hb1
    go_wp2
    go_ret
    exact RetB.bool rfl hb1
end Go.Proofs.Ythbablmgpjjphaa
