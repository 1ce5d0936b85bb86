/-
  ShareSecrets: the walk.
-/
import Derived.Test.YtkjpnhhkebbmdaaDoorShX
namespace Go.Proofs.YtkjpnhhkebbmdaaDoor
open Go.RowKit

attribute [local go_sem high] sliced_low
set_option maxRecDepth 100000 in
set_option maxHeartbeats 4000000 in
theorem shareSecrets_walk (A0 : Option Addr) (L0 : List Int) (c0 : Nat) (w : World) (hB : Bases w) (hl0 : L0.length ≤ maxLen) (hI0 : IntsAt w A0 L0) (_ : ∀ n ∈ L0, -9223372036854775808 ≤ n ∧ n ≤ 9223372036854775807) :
    Calls Tryd.prog 5 #[.slice A0 L0.length c0] w (RetB (.bool true) w) := by
  have HB := Lib.hid hB
  clear hB
  by_cases hlight : (L0.length : Int) ≤ 500
  · have hL := light_any A0 L0.length c0 w
    rw [decide_eq_true hlight] at hL
    have HLt := Lib.hid hL
    clear hL hlight
    go_enter Tryd.func5, Tryd.ntmps5
    go_wp2_with fail
    refine ret_pure HLt.out ?_
    clear HLt
    go_wp2_with fail
    refine (roll_any A0 L0 c0 _ hl0 hI0).mono ?_
    rintro e w1 ⟨D, rfl, hDs, hD, hb1⟩
    have hE1 : Env w w1 D L0 := ⟨hD, hDs, hb1⟩
    clear hI0 hD hb1
    go_wp2_with fail
    refine (prime_any D L0 _ hE1.dice).mono ?_
    rintro e w2 ⟨p, rfl, hpp, hp5, -, hD2, hg2⟩
    have hE2 := hE1.next hD2 hg2
    have h2 := hpp.1
    have h1 : 1 ≤ p := by omega
    have hp2 : p ≤ 2147483648 := by omega
    have HPP := Lib.hid hpp
    clear hg2 hD2 hE1 hpp
    go_wp2_with fail
    refine (plan_any D _ p _ hE2.dice h2 hp2).mono ?_
    rintro e w3 ⟨n, h, R3, rfl, ⟨hn1, hnh, hh7, hhp⟩, hD3, hg3⟩
    have hE3 := hE2.next hD3 hg3
    have HPN := Lib.hid (PlanN.mk' HPP.out (by omega) hn1 hnh hh7 hhp)
    clear hD3 hg3 hE2
    go_wp2_with fail
    refine gen_world fun w4 hw4 => ?_
    have hpc : PlanCell w4 w3.heap.size p n h := by rw [hw4]; exact PlanCell.new _ _ _ rfl
    have hE4 : Env w w4 D R3 := hE3.mv (by rw [hw4]; exact below_alloc _ _)
    have hxD : w3.heap.size ≠ D := by have := hE3.lt; omega
    have hlx := hpc.lt
    have p0 := hpc.c0
    have p1 := hpc.c1
    have p2 := hpc.c2
    have HPC := Lib.hid hpc
    generalize w3.heap.size = px at *
    clear hw4 hE3 hpc
    go_region_held3 (fun w' => w'.cell? ⟨px, 0, none⟩ = some (.int .i64 (p : Int)) ∧ w'.cell? ⟨px, 1, none⟩ = some (.int .i64 (n : Int)) ∧ w'.cell? ⟨px, 2, none⟩ = some (.int .i64 (h : Int))) (first | go_keep)
      (first
        | (go_at_call 17; refine (next_nat D _ 4 _ (by exact hE4.dice) (by omega) (by omega)).mono ?_; rintro e w5 ⟨m0, rfl, hm0, hD5, hg5⟩; have hg5' : w4.grownBy w5 (some D) := (grown_undrew hg5); have hE5 := hE4.next hD5 hg5'; have HP5 := Lib.hid (HPC.out.mv hg5' hxD); have q0 := HP5.out.c0; have q1 := HP5.out.c1; have q2 := HP5.out.c2; have ew : IntKind.i64.wrap (1 + (m0:Int)) = 1 + (m0:Int) := (IntWalk.i64_in _ (by omega)))
        | (go_at_call 16; refine (elements_at D _ p (1 + m0) _ _ (by omega) hE5.dice h1 hp2 (by omega)).mono ?_; intro e w6 he; obtain ⟨SA, sc, sec, R6, rfl, hsl, hsp, hS, hD6, hg6⟩ := elems_held hE5.lt he; have HSL := Lib.hid hsl; clear hsl; have hE6 := hE5.next hD6 hg6; have HP6 := Lib.hid (HP5.out.mv hg6 hxD); have r0 := HP6.out.c0; have r1 := HP6.out.c1; have r2 := HP6.out.c2))
    have HSEC := Lib.hid hS
    have HSP := Lib.hid hsp
    have hsl1 : sec.length ≤ 4 := by have := HSL.out; omega
    have hsl2 : 1 ≤ sec.length := by have := HSL.out; omega
    have lx6 := HP6.out.lt
    clear he hS hsp hD6 hg6 hE5 hD5 hg5 hg5' hE4 q0 q1 q2 p0 p1 p2 HP5 HPC HSL hm0 ew
    go_wp2_with fail
    have hrb : (sec.length : Int) * ((n : Int) - 1) = ((sec.length * (n - 1) : Nat) : Int) := by rw [show ((n : Int) - 1) = ((n - 1 : Nat) : Int) by omega]; push_cast; rfl
    obtain ⟨rl, hrl⟩ : ∃ rl, rl = sec.length * (n - 1) := ⟨_, rfl⟩
    have hrl2 : rl ≤ 100 := by rw [hrl]; have := Nat.mul_le_mul hsl1 (show n - 1 ≤ 7 by omega); omega
    have HRN := Lib.hid (fun (W : World) => random_any p n h sec.length W (by omega) (by omega) (by omega) (by omega))
    rw [hrb, ← hrl] at HRN
    have HRL := Lib.hid hrl
    clear hrb hrl
    go_region_held3 (fun w' => w'.cell? ⟨px, 0, none⟩ = some (.int .i64 (p : Int)) ∧ w'.cell? ⟨px, 1, none⟩ = some (.int .i64 (n : Int)) ∧ w'.cell? ⟨px, 2, none⟩ = some (.int .i64 (h : Int))) (first | go_keep)
      (first
        | (go_at_call 23; refine ret_below (HRN.out _) ?_; intro w7 hb7; have hb7' : Below w6.heap.size w6 w7 := (below_undrew1 hb7); have hE7 := hE6.mv hb7'; have HP7 := Lib.hid (HP6.out.below hb7'); have q0 := HP7.out.c0; have q1 := HP7.out.c1; have q2 := HP7.out.c2)
        | (go_at_call 16; refine (elements_any D _ p rl _ hE7.dice h1 hp2 (by omega)).mono ?_; intro e w8 he; obtain ⟨RA, rc, ran, R8, rfl, hrnl, hrp, hR, hD8, hg8⟩ := elems_held hE7.lt he; have HRNL := Lib.hid hrnl; clear hrnl; have hE8 := hE7.next hD8 hg8; have HP8 := Lib.hid (HP7.out.mv hg8 hxD); have s0 := HP8.out.c0; have s1 := HP8.out.c1; have s2 := HP8.out.c2; have HSEC8 := Lib.hid ((HSEC.out.below hb7').mv hg8))
        | (go_at_call 20; refine (deal_made HPN.out (hE8.bases HB.out) HSEC8.out.nats hR.nats hR.ok (by omega) HSP.out hrp (by exact HRNL.out.trans HRL.out) (by have := HRNL.out; omega) rfl rfl).mono ?_; rintro e w9 ⟨NA, nc, rfl, hN, hb9⟩; have hE9 := hE8.mv hb9; have HP9 := Lib.hid (HP8.out.below hb9); have HSEC9 := Lib.hid (HSEC8.out.below hb9); have HN := Lib.hid (hN.away hE8.lt); have HMD := Lib.hid (deal_Made HPN.out HSP.out hrp); have HNL := Lib.hid (deal_len p n h sec ran); clear hN; have t0 := HP9.out.c0; have t1 := HP9.out.c1; have t2 := HP9.out.c2))
    have lx9 := HP9.out.lt
    have HRP := Lib.hid hrp
    clear he hrp hR hD8 hg8 hE8 hE7 hE6 HP8 HP7 HP6 HSEC8 HSEC q0 q1 q2 s0 s1 s2 r0 r1 r2 hb9 hb7 hb7' HRN

    go_wp2_with fail
    refine (turn_made D _ NA nc h (dealN p n h sec ran) n _ hE9.dice (by exact HN.out) (by exact HMD.out.short (by omega)) (by rw [HNL.out]; omega) (by omega) HNL.out.symm).mono ?_
    rintro e w10 ⟨TA, tc, M, R10, rfl, htp, htl, hle, hTS, hD10, hg10⟩
    have hmn : n ≤ M.length := hle (by rw [HNL.out]; exact hnh)
    have hmh : M.length ≤ h := by rw [HNL.out] at htl; exact htl
    have HM := Lib.hid (HMD.out.part htp)
    have HT10 := Lib.hid hTS
    have hE10 := hE9.next hD10 hg10
    have HP10 := Lib.hid (HP9.out.mv hg10 hxD)
    have HN10 := Lib.hid (HN.out.mv hg10)
    have HSEC10 := Lib.hid (HSEC9.out.mv hg10)
    have hE10l := hE10.lt
    have u0 := HP10.out.c0; have u1 := HP10.out.c1; have u2 := HP10.out.c2
    clear htp htl hle hTS hD10 hg10 hE9 HP9 t0 t1 t2 HN HSEC9
    go_wp2_with fail
    refine (combine_made HM.out HPN.out TA tc M.length _ (hE10.bases HB.out) (by exact HT10.out) (by omega) (by omega) rfl hmn).mono ?_
    intro e w11 he
    obtain ⟨XA, xc, rfl, hX, hb11⟩ := he.held hE10l
    have hE11 := hE10.mv hb11
    have HP11 := Lib.hid (HP10.out.below hb11)
    have v0 := HP11.out.c0; have v1 := HP11.out.c1; have v2 := HP11.out.c2
    have HX11 := Lib.hid hX
    have HT11 := Lib.hid (HT10.out.below hb11)
    have HN11 := Lib.hid (HN10.out.below hb11)
    have HSEC11 := Lib.hid (HSEC10.out.below hb11)
    have hE11l := hE11.lt
    clear he hX hb11 hE10 HP10 u0 u1 u2 HT10 HN10 HSEC10
    have hcap := HT11.out.cap
    obtain ⟨k, hk⟩ : ∃ k, k + 1 = n := ⟨n - 1, by omega⟩
    have ek : IntKind.i64.wrap ((n : Int) - 1) = (k : Int) := by rw [IntWalk.i64_in _ (by omega)]; omega
    have ek0 : (0 : Int) ≤ (k : Int) := by omega
    have ek1 : (k : Int) ≤ (tc : Int) := by omega
    have ek2 : k ≤ M.length := by omega
    have ek3 : (M.take k).length = k := by rw [List.length_take]; omega
    have HK := Lib.hid ek3
    clear ek3
    go_wp2_with fail
    go_region_held3 (fun w' => w'.cell? ⟨px, 0, none⟩ = some (.int .i64 (p : Int)) ∧ w'.cell? ⟨px, 1, none⟩ = some (.int .i64 (n : Int)) ∧ w'.cell? ⟨px, 2, none⟩ = some (.int .i64 (h : Int))) (first | go_keep)
      ((go_at_call 27; refine (combine_few (HM.out.take k) HPN.out TA tc k _ (hE11.drewT.bases HB.out) (by rw [← shL_take]; exact HT11.out.drewT.take k) (by omega) (by have := HK.out; omega) (by exact HK.out.symm) (by have := HK.out; omega)).mono ?_; intro e w12 he; obtain ⟨YA, yc, rfl, hY, hb12'⟩ := he.held (by exact hE11l); have hb12 : Below w11.heap.size w11 w12 := (below_undrew1 hb12'); have hE12 := hE11.mv hb12; have HP12 := Lib.hid (HP11.out.below hb12); have HX12 := Lib.hid (HX11.out.below hb12); have HT12 := Lib.hid (HT11.out.below hb12); have HN12 := Lib.hid (HN11.out.below hb12); have HSEC12 := Lib.hid (HSEC11.out.below hb12); have y0 := HP12.out.c0; have y1 := HP12.out.c1; have y2 := HP12.out.c2))
    go_wp2_with fail
    refine (same_at XA SA sec _ _ xc sc _ HX12.out.nats HSEC12.out.nats (by omega) rfl rfl).mono ?_
    rintro e w13 ⟨rfl, rfl⟩
    go_wp2_with fail
    refine ret_below (fits_made HMD.out HPN.out NA nc h _ (hE12.bases HB.out) (by exact HN12.out) (by omega) (by rw [HNL.out]; omega) HNL.out.symm) ?_
    intro w14 hb14
    have hE14 := hE12.mv hb14
    have HP14 := Lib.hid (HP12.out.below hb14)
    have HT14 := Lib.hid (HT12.out.below hb14)
    have z0 := HP14.out.c0; have z1 := HP14.out.c1; have z2 := HP14.out.c2
    clear hE12 HP12 HT12 y0 y1 y2 hb14
    go_wp2_with fail
    refine ret_below (fits_made HM.out HPN.out TA tc M.length _ (hE14.bases HB.out) (by exact HT14.out) (by omega) (by omega) rfl) ?_
    intro w15 hb15
    have hE15 := hE14.mv hb15
    go_wp2_with fail
    refine ret_below (awake_any _ (hE15.bases HB.out)) ?_
    intro w16 hb16
    go_wp2_with fail
    go_ret
    exact RetB.bool rfl (hE15.mv hb16).below
  · have hL := light_any A0 L0.length c0 w
    rw [decide_eq_false hlight] at hL
    have HLt := Lib.hid hL
    clear hL
    go_enter Tryd.func5, Tryd.ntmps5
    go_wp2_with fail
    refine ret_pure HLt.out ?_
    go_wp2_with fail
    refine ret_below (awake_any _ HB.out) ?_
    intro w1 hb1
    go_wp2_with fail
    go_ret
    exact RetB.bool rfl hb1
end Go.Proofs.YtkjpnhhkebbmdaaDoor
