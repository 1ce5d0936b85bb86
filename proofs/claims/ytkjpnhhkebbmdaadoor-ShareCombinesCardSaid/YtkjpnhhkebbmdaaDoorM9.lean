/-
  ShareCombines: the walk.
  A slice of numbers that came in reads as a list.
  Lists of numbers that came in, with what is known of their room.
  A slice of shares that came in reads as a list of shares.
  Conditions: those that each theorem names.
-/
import Derived.Test.YtkjpnhhkebbmdaaDoorM8
import Derived.Deep.SlicePairs
import Derived.ChangeArms
import Derived.OpenShut
set_option linter.unusedVariables false
set_option linter.unusedSimpArgs false
namespace Go.Proofs.YtkjpnhhkebbmdaaDoor
open Go.RowKit

attribute [local go_sem high] sliced_low
set_option maxRecDepth 100000 in
set_option maxHeartbeats 8000000 in
theorem shareCombines_walk (A0 : Option Addr) (L0 : List Int) (c0 : Nat) (RA : Option Addr) (RS : List Shr) (rc : Nat) (cc : Int) (w : World) (hB : Bases w) (hl0 : L0.length ≤ maxLen) (hI0 : IntsAt w A0 L0) (_ : ∀ n ∈ L0, -9223372036854775808 ≤ n ∧ n ≤ 9223372036854775807)
    (hrl : RS.length ≤ maxLen) (hRS : ShP (fun _ => True) w RA rc RS) (_ : -9223372036854775808 ≤ cc ∧ cc ≤ 9223372036854775807) :
    Calls Tryd.prog 6 #[.slice A0 L0.length c0, .slice RA RS.length rc, .int .i64 cc] w (RetB (.bool true) w) := by
  have HB := Lib.hid hB
  clear hB
  by_cases hlight : (L0.length : Int) ≤ 500
  · have hL := light_any A0 L0.length c0 w
    rw [decide_eq_true hlight] at hL
    have HLt := Lib.hid hL
    clear hL hlight
    have hsm := small_any RA rc RS w hRS hrl
    cases hsb : smB RS with
    | false =>
      rw [hsb] at hsm
      have HSM := Lib.hid hsm
      clear hsm hsb
      go_enter Tryd.func6, Tryd.ntmps6
      go_wp2_with fail
      refine ret_pure HLt.out ?_
      go_wp2_with fail
      refine ret_below HSM.out ?_
      intro w1 hb1
      go_wp2_with fail
      refine ret_below (awake_any _ (HB.out.keep hb1)) ?_
      intro w2 hb2
      go_wp2_with fail
      go_ret
      exact RetB.bool rfl (below_trans hb1 hb2)
    | true =>
      rw [hsb] at hsm
      have HSM := Lib.hid hsm
      obtain ⟨hr12, hrW⟩ := smB_of hsb
      have HRW := Lib.hid hrW
      have HRS := Lib.hid hRS
      clear hsm hsb hrW hRS hrl
      go_enter Tryd.func6, Tryd.ntmps6
      go_wp2_with fail
      refine ret_pure HLt.out ?_
      clear HLt
      go_wp2_with fail
      refine ret_below HSM.out ?_
      intro w0 hb0
      have HB0 := Lib.hid (HB.out.keep hb0)
      clear HSM
      go_wp2_with fail
      refine (roll_any A0 L0 c0 _ hl0 (hI0.below hb0)).mono ?_
      rintro e w1 ⟨D, rfl, hDs, hD, hb1⟩
      have hDw : w.heap.size ≤ D := Nat.le_trans hb0.size hDs
      have hE1 : Env w w1 D L0 := ⟨hD, hDw, below_trans hb0 hb1⟩
      have HR1 : Hid (ShP (· ≠ D) w1 RA rc RS) := Lib.hid ((HRS.out.mono (Q := (· ≠ D)) (fun b hb _ => by omega)).below hE1.below)
      clear hI0 hD hb1 hb0 HRS HB0 hDs
      go_wp2_with fail
      refine (prime_any D L0 _ hE1.dice).mono ?_
      rintro e w2 ⟨p, rfl, hpp, hp5, -, hD2, hg2⟩
      have hE2 := hE1.next hD2 hg2
      have h2 := hpp.1
      have h1 : 1 ≤ p := by omega
      have hp2 : p ≤ 2147483648 := by omega
      have HPP := Lib.hid hpp
      replace HR1 := Lib.hid (HR1.out.mv hg2)
      clear hg2 hD2 hE1 hpp
      go_wp2_with fail
      refine (plan_any D _ p _ hE2.dice h2 hp2).mono ?_
      rintro e w3 ⟨n, h, R3, rfl, ⟨hn1, hnh, hh7, hhp⟩, hD3, hg3⟩
      have hE3 := hE2.next hD3 hg3
      have HPN := Lib.hid (PlanN.mk' HPP.out (by omega) hn1 hnh hh7 hhp)
      replace HR1 := Lib.hid (HR1.out.mv hg3)
      clear hD3 hg3 hE2
      go_wp2_with fail
      refine gen_calls fun w4 hw4 => ?_
      have hb4 : Below w3.heap.size w3 w4 := by rw [hw4]; exact below_alloc _ _
      have HP4 : Hid (PlanCell w4 w3.heap.size p n h) := Lib.hid (by rw [hw4]; exact PlanCell.new _ _ _ rfl)
      have hE4 : Env w w4 D R3 := hE3.mv hb4
      replace HR1 := Lib.hid (HR1.out.below hb4)
      have hxD : w3.heap.size ≠ D := by have := hE3.lt; omega
      clear hw4 hb4 hE3
      generalize w3.heap.size = px at *
      refine (dealt_any D R3 p n h 3 w4 hE4.dice HPN.out (by omega) (by omega)).mono ?_
      rintro e w5 ⟨SA, sac, sec, LA, lc, ran, R5, rfl, hdl, -, hLP, hD5, hg5⟩
      have hE5 := hE4.next hD5 hg5
      replace HP4 := Lib.hid (HP4.out.mv hg5 hxD)
      replace HR1 := Lib.hid (HR1.out.mv hg5)
      have HDL := Lib.hid hdl
      have HLP := Lib.hid hLP
      have HMD := Lib.hid (deal_Made HPN.out hdl.sp hdl.rp)
      have hsl := hdl.hi
      have HNL : Hid ((dealN p n h sec ran).length = h) := Lib.hid (deal_len p n h sec ran)
      have HVL : Hid (∀ k, k < h → (vN (dealN p n h sec ran) k).length = sec.length) := Lib.hid (fun k hk => HMD.out.vlen (by rw [HNL.out]; exact hk))
      have HVP : Hid (∀ k, k < h → ∀ x ∈ vN (dealN p n h sec ran) k, x < p) := Lib.hid (fun k hk => ((HMD.out.good h1 (by omega)).rng k (by rw [HNL.out]; exact hk)).2.2)
      clear hdl hLP hD5 hg5 hE4 HDL
      generalize dealN p n h sec ran = N at *
      have p0 := HP4.out.c0
      have p1 := HP4.out.c1
      have p2 := HP4.out.c2
      have hpl5 := HP4.out.lt
      have hpo : px ≠ w5.heap.size := Nat.ne_of_lt HP4.out.lt
      have hDo : D < w5.heap.size := hE5.lt
      have HR5 : Hid (ShP (fun b => b ≠ D ∧ b ≠ w5.heap.size) w5 RA rc RS) := Lib.hid (HR1.out.mono (fun b hb h => ⟨h, by omega⟩))
      have HL5 : Hid (ShP (fun b => b ≠ D ∧ b ≠ w5.heap.size) w5 LA lc (shL N)) := Lib.hid (HLP.out.mono (fun b hb h => ⟨h, by omega⟩))
      go_wp2_with fail
      refine gen_calls fun w6 hw6 => ?_
      have hb6 : Below w5.heap.size w5 w6 := by rw [hw6]; exact below_alloc _ _
      have HO6 : Hid (PlanCell w6 w5.heap.size p n h) := Lib.hid (by rw [hw6]; exact PlanCell.new _ _ _ rfl)
      have hE6 := hE5.mv hb6
      replace HP4 := Lib.hid (HP4.out.below hb6)
      replace HR5 := Lib.hid (HR5.out.below hb6)
      replace HL5 := Lib.hid (HL5.out.below hb6)
      have hoD : w5.heap.size ≠ D := by omega
      have hwo : w.heap.size ≤ w5.heap.size := hE5.below.size
      clear hw6 hb6 hE5 p0 p1 p2 HR1 HLP
      generalize w5.heap.size = ox at *
      refine (next_nat D R5 h w6 hE6.dice (by omega) (by omega)).mono ?_
      rintro e w7 ⟨m0, rfl, hm0, hD7, hg7⟩
      have hE7 := hE6.next hD7 hg7
      replace HP4 := Lib.hid (HP4.out.mv hg7 hxD)
      replace HO6 := Lib.hid (HO6.out.mv hg7 hoD)
      replace HR5 := Lib.hid (HR5.out.two hg7)
      replace HL5 := Lib.hid (HL5.out.two hg7)
      obtain ⟨m, hm, hm1⟩ : ∃ m : Nat, 1 + (m0 : Int) = (m : Int) ∧ m ≤ h := ⟨1 + m0, by omega, by omega⟩
      have ew : IntKind.i64.wrap (1 + (m0 : Int)) = (m : Int) := by rw [hm]; exact IntWalk.i64_in _ (by omega)
      have o1 := HO6.out.c1
      have f1 := HO6.out.frozen 1
      clear hm hm0 hD7 hg7 hE6
      go_wp2_with fail
      refine gen_calls fun w8 hw8 => ?_
      have HO8 : Hid (PlanCell w8 ox p m h) := Lib.hid (by rw [hw8]; exact HO6.out.set1 m)
      have HP8 : Hid (PlanCell w8 px p n h) := Lib.hid (by rw [hw8]; exact HP4.out.other _ _ hpo)
      have hE8 : Env w w8 D R5.tail := by rw [hw8]; exact ⟨hE7.dice.setCell _ _ hDo, hE7.low, hE7.below.setCell (p := ⟨ox, 1, none⟩) hwo _⟩
      have HR8 : Hid (ShP (· ≠ D) w8 RA rc RS) := Lib.hid (by rw [hw8]; exact HR5.out.set2 _)
      have HL8 : Hid (ShP (· ≠ D) w8 LA lc (shL N)) := Lib.hid (by rw [hw8]; exact HL5.out.set2 _)
      clear hw8 hE7 HP4 HO6 HR5 HL5 o1 f1 ew
      have HWN : Hid (Wide 3 (shL N)) := Lib.hid (HMD.out.wide hsl)
      refine (turnZ D R5.tail LA lc h N w8 hE8.dice HL8.out (HWN.out.short (by omega)) (by rw [HNL.out]; omega) HNL.out.symm).mono ?_
      rintro e w9 ⟨TA, tc, M1, R9, rfl, htp, htl, -, hTS, hD9, hg9⟩
      have HT : Hid (ShP (· ≠ D) w9 TA tc (shL M1)) := Lib.hid hTS
      have HW1 : Hid (Wide 3 (shL M1)) := Lib.hid ((HMD.out.part htp).wide hsl)
      have hM1 : M1.length ≤ h := by rw [HNL.out] at htl; exact htl
      have hE9 := hE8.next hD9 hg9
      replace HP8 := Lib.hid (HP8.out.mv hg9 hxD)
      replace HO8 := Lib.hid (HO8.out.mv hg9 hoD)
      replace HR8 := Lib.hid (HR8.out.mv hg9)
      replace HL8 := Lib.hid (HL8.out.mv hg9)
      clear htp htl hTS hD9 hg9 hE8
      go_wp2_with fail
      refine (oddN D 3 R9 LA lc h N w9 hE9.dice HL8.out HWN.out (by omega) (by rw [HNL.out]; omega) HNL.out.symm).mono ?_
      intro e w10 he
      obtain ⟨OA, oc, S2, R10, rfl, hS2, hl2, hW2, hD10, hg10⟩ := he.open_
      rw [shL_len, HNL.out] at hl2
      have HS2 := Lib.hid hS2
      have HW2 := Lib.hid hW2
      have hE10 := hE9.next hD10 hg10
      replace HP8 := Lib.hid (HP8.out.mv hg10 hxD)
      replace HO8 := Lib.hid (HO8.out.mv hg10 hoD)
      replace HR8 := Lib.hid (HR8.out.mv hg10)
      replace HL8 := Lib.hid (HL8.out.mv hg10)
      replace HT := Lib.hid (HT.out.mv hg10)
      clear he hS2 hW2 hD10 hg10 hE9
      go_wp2_with fail
      refine (turnI D R10 LA lc h N w10 hE10.dice HL8.out (HWN.out.short (by omega)) (by rw [HNL.out]; omega) HNL.out.symm).mono ?_
      rintro e w11 ⟨UA, uc, M2, R11, rfl, htp, htl, -, hTS, hD11, hg11⟩
      have HU : Hid (ShP (· ≠ D) w11 UA uc (shL M2)) := Lib.hid hTS
      have HWU : Hid (Wide 3 (shL M2)) := Lib.hid ((HMD.out.part htp).wide hsl)
      have hM2 : M2.length ≤ h := by rw [HNL.out] at htl; exact htl
      have hE11 := hE10.next hD11 hg11
      replace HP8 := Lib.hid (HP8.out.mv hg11 hxD)
      replace HO8 := Lib.hid (HO8.out.mv hg11 hoD)
      replace HR8 := Lib.hid (HR8.out.mv hg11)
      replace HL8 := Lib.hid (HL8.out.mv hg11)
      replace HT := Lib.hid (HT.out.mv hg11)
      replace HS2 := Lib.hid (HS2.out.mv hg11)
      clear htp htl hTS hD11 hg11 hE10
      go_wp2_with fail
      refine (oddN D 3 R11 UA uc M2.length M2 w11 hE11.dice HU.out HWU.out (by omega) (by omega) rfl).mono ?_
      intro e w12 he
      obtain ⟨QA, qc, S4, R12, rfl, hS4, hl4, hW4, hD12, hg12⟩ := he.open_
      rw [shL_len] at hl4
      have HS4 := Lib.hid hS4
      have HW4 := Lib.hid hW4
      have hE12 := hE11.next hD12 hg12
      replace HP8 := Lib.hid (HP8.out.mv hg12 hxD)
      replace HO8 := Lib.hid (HO8.out.mv hg12 hoD)
      replace HR8 := Lib.hid (HR8.out.mv hg12)
      replace HL8 := Lib.hid (HL8.out.mv hg12)
      replace HT := Lib.hid (HT.out.mv hg12)
      replace HS2 := Lib.hid (HS2.out.mv hg12)
      clear he hS4 hW4 hD12 hg12 hE11 HU HWU
      go_wp2_with fail
      refine gen_world fun w13 hw13 => ?_
      have hb13 : Below w12.heap.size w12 w13 := by rw [hw13]; exact below_alloc _ _
      have HX : ∃ X : List SI, X.length = 5 ∧ SsAt (· ≠ D) w13 w12.heap.size X := ⟨_, rfl, SsAt.five (by rw [hw13]; exact heap_alloc_new _ _) (by rw [shL_len, HNL.out]) (by rw [shL_len]) rfl rfl rfl
        ⟨HL8.out.below hb13, by rw [shL_len, HNL.out]; omega, HWN.out.mono (by omega)⟩ ⟨HT.out.below hb13, by rw [shL_len]; omega, HW1.out.mono (by omega)⟩ ⟨HS2.out.below hb13, by omega, HW2.out.mono (by omega)⟩ ⟨HR8.out.below hb13, by omega, HRW.out.mono (by omega)⟩ ⟨HS4.out.below hb13, by omega, HW4.out.mono (by omega)⟩⟩
      obtain ⟨X, hX5, hSS⟩ := HX
      have HST : Hid (CSt w w13 D R12 px p n h ox m LA lc N w12.heap.size X) := Lib.hid ⟨hE12.mv hb13, HP8.out.below hb13, HO8.out.below hb13, HL8.out.below hb13, hSS, hxD, hoD, by have := hE12.lt; omega⟩
      clear hw13 hb13 hSS hE12 HP8 HO8 HL8 HR8 HT HS2 HS4 HW1 HW2 HW4 HRW hM1 hM2 hl2 hl4
      generalize w12.heap.size = gl at *
      go_loopw [71] (fun i wr => ∃ (k : Nat) (R : List Int), k ≤ 5 ∧ i = .int .i64 k ∧ CSt w wr D R px p n h ox m LA lc N gl X) (fun i _ => 5 - (intOf i).toNat)
      case atStart => exact ⟨0, _, Nat.zero_le _, rfl, HST.out⟩
      case round =>
        clear HST
        obtain ⟨k, R, hk, rfl, hSt⟩ := hrel
        have HST := Lib.hid hSt
        clear hSt
        by_cases hkl : k < 5
        · obtain ⟨XA, xc, XS, y0, hXS, hXl, hXW⟩ := HST.out.ss.at_ k (by rw [hX5]; exact hkl)
          have HXS := Lib.hid hXS
          have HXW := Lib.hid hXW
          have i1 : (0 : Int) ≤ (k : Int) := by omega
          have i2 : (k : Int) < 5 := by omega
          have p0 := HST.out.pp.c0
          have p1 := HST.out.pp.c1
          have p2 := HST.out.pp.c2
          have q0 := HST.out.po.c0
          have q1 := HST.out.po.c1
          have q2 := HST.out.po.c2
          clear hXS hXW
          go_wp2_with fail
          clear y0
          go_region_held3 (fun w' => w'.cell? ⟨px, 0, none⟩ = some (.int .i64 (p : Int)) ∧ w'.cell? ⟨px, 1, none⟩ = some (.int .i64 (n : Int)) ∧ w'.cell? ⟨px, 2, none⟩ = some (.int .i64 (h : Int)) ∧ w'.cell? ⟨ox, 0, none⟩ = some (.int .i64 (p : Int)) ∧ w'.cell? ⟨ox, 1, none⟩ = some (.int .i64 (m : Int)) ∧ w'.cell? ⟨ox, 2, none⟩ = some (.int .i64 (h : Int))) (first | go_keep)
            ((go_at_call 13; refine (anyPlan_any D R _ (by exact HST.out.env.dice)).mono ?_; rintro e wa ⟨P3, N3, Q3, R2, rfl, -, hDa, hga⟩; have hga' : wr.grownBy wa (some D) := (by first | exact grown_undrew hga | exact hga); replace HST := Lib.hid (HST.out.mv hDa hga'); replace HXS := Lib.hid (HXS.out.mv hga'); replace p0 := HST.out.pp.c0; replace p1 := HST.out.pp.c1; replace p2 := HST.out.pp.c2; replace q0 := HST.out.po.c0; replace q1 := HST.out.po.c1; replace q2 := HST.out.po.c2))
          clear hDa hga hga' p0 p1 p2 q0 q1 q2
          go_wp2_with fail
          refine gen_world fun wb hwb => ?_
          have hbb : Below wa.heap.size wa wb := by rw [hwb]; (repeat (first | exact bl_refl _ | apply bl_drew | apply bl_alloc))
          have hP3 : ∃ a b c d e f x y z, Plan3 wb wa.heap.size a b c d e f x y z := ⟨_, _, _, _, _, _, _, _, _, by rw [hwb]; exact heap_alloc_new _ _⟩
          obtain ⟨a1, a2, a3, a4, a5, a6, a7, a8, a9, hP3⟩ := hP3
          have HP3 := Lib.hid hP3
          replace HST := Lib.hid (HST.out.below hbb)
          replace HXS := Lib.hid (HXS.out.below hbb)
          clear hwb hbb hP3
          generalize wa.heap.size = g3 at *
          go_loopw [81] (fun i wr => ∃ k2 : Nat, k2 ≤ 3 ∧ i = .int .i64 k2 ∧ Below wb.heap.size wb wr) (fun i _ => 3 - (intOf i).toNat)
          case atStart => exact ⟨0, Nat.zero_le _, rfl, Below.refl _ _⟩
          case round =>
            obtain ⟨k2, hk2, rfl, hbr⟩ := hrel
            by_cases hk2l : k2 < 3
            · obtain ⟨P1, N1, Q1, x0, x1, x2⟩ := (HP3.out.below hbr).at_ k2 hk2l
              have HXr := Lib.hid (HXS.out.below hbr)
              have HBr := Lib.hid ((HST.out.below hbr).env.bases HB.out)
              have j1 : (0 : Int) ≤ (k2 : Int) := by omega
              have j2 : (k2 : Int) < 3 := by omega
              have HC1 := Lib.hid (fun (W : World) (hb : Below wr.heap.size wr W) => combine_any P1 N1 Q1 XA xc XS W (prime_eq P1) (HBr.out.keep hb) (HXr.out.below hb) (HXW.out.short (by omega)) (by omega))
              have HC2 := Lib.hid (fun (W : World) (hb : Below wr.heap.size wr W) => refCombine_any P1 N1 Q1 XA xc XS W (prime_eq P1) (HXr.out.below hb) (HXW.out.short (by omega)) (by omega))
              have HF1 := Lib.hid (fun (W : World) (hb : Below wr.heap.size wr W) => fits_any P1 N1 Q1 XA xc XS W (prime_eq P1) (HBr.out.keep hb) (HXr.out.below hb) (HXW.out.short (by omega)) (by omega))
              have HF2 := Lib.hid (fun (W : World) (hb : Below wr.heap.size wr W) => refFits_any P1 N1 Q1 XA xc XS W (prime_eq P1) (HXr.out.below hb) (HXW.out.short (by omega)) (by omega))
              have hcl : (cmL P1 N1 Q1 XS).length ≤ 1000 := cmL_len HXW.out hXl
              generalize cmL P1 N1 Q1 XS = CL at *
              generalize cmE P1 N1 Q1 XS = er at *
              generalize ftB P1 N1 Q1 XS = fb at *
              go_wp2_with fail
              refine gen_calls fun wc hwc => ?_
              have hbc : Below wr.heap.size wr wc := by rw [hwc]; exact below_alloc _ _
              have HPC : Hid (PlanCell wc wr.heap.size P1 N1 Q1) := Lib.hid (by rw [hwc]; exact PlanCell.new _ _ _ rfl)
              clear hwc x0 x1 x2
              have hqx := HPC.out.lt
              refine (HC1.out _ hbc).mono ?_
              rintro e wd ⟨A1, k1, rfl, hN1, -, -, hb1⟩
              have HN1 := Lib.hid hN1
              have hbd := below_trans hbc hb1
              replace HPC := Lib.hid (HPC.out.below hb1)
              have z0 := HPC.out.c0
              have z1 := HPC.out.c1
              have z2 := HPC.out.c2
              clear hN1 hb1 hbc HC1
              go_wp2_with fail
              refine (HC2.out _ hbd).mono ?_
              rintro e we ⟨A2, l2, rfl, hN2, -, -, hb2⟩
              have HN2 := Lib.hid hN2
              replace HN1 := Lib.hid (HN1.out.below hb2)
              have hbe := below_trans hbd hb2
              replace HPC := Lib.hid (HPC.out.below hb2)
              replace z0 := HPC.out.c0
              replace z1 := HPC.out.c1
              replace z2 := HPC.out.c2
              have hqe := HPC.out.lt
              clear hN2 hb2 hbd HC2 hqx
              have hfb : (fb != fb) = false := by simp
              have her : (er != er) = false := by simp
              go_wp2_with fail
              go_region_held3 (fun w' => w'.cell? ⟨wr.heap.size, 0, none⟩ = some (.int .i64 P1) ∧ w'.cell? ⟨wr.heap.size, 1, none⟩ = some (.int .i64 N1) ∧ w'.cell? ⟨wr.heap.size, 2, none⟩ = some (.int .i64 Q1)) (first | go_keep)
                (first
                  | (go_at_call 28; refine ret_below (sameB A1 A2 CL _ _ k1 l2 _ (by first | exact HN1.out | exact HN1.out.below (below_drewT _)) (by first | exact HN2.out | exact HN2.out.below (below_drewT _)) (by omega) rfl rfl) ?_; intro wf hbf; have hbf' : Below we.heap.size we wf := (by first | exact hbf | exact below_undrew1 hbf); have hbg := below_trans hbe hbf'; have z0f := (hbf'.cell (p := ⟨wr.heap.size, 0, none⟩) hqe).trans z0; have z1f := (hbf'.cell (p := ⟨wr.heap.size, 1, none⟩) hqe).trans z1; have z2f := (hbf'.cell (p := ⟨wr.heap.size, 2, none⟩) hqe).trans z2)
                  | (go_at_call 29; refine ret_below (HF1.out _ hbg) ?_; intro wg hbh; have hbi := below_trans hbg hbh; have z0g := (hbh.cell (p := ⟨wr.heap.size, 0, none⟩) (Nat.lt_of_lt_of_le hqe hbf'.size)).trans z0f; have z1g := (hbh.cell (p := ⟨wr.heap.size, 1, none⟩) (Nat.lt_of_lt_of_le hqe hbf'.size)).trans z1f; have z2g := (hbh.cell (p := ⟨wr.heap.size, 2, none⟩) (Nat.lt_of_lt_of_le hqe hbf'.size)).trans z2f)
                  | (go_at_call 34; refine ret_below (HF2.out _ hbi) ?_; intro wh hbj; have hbk := below_trans hbi hbj; have z0h := (hbj.cell (p := ⟨wr.heap.size, 0, none⟩) (Nat.lt_of_lt_of_le (Nat.lt_of_lt_of_le hqe hbf'.size) hbh.size)).trans z0g; have z1h := (hbj.cell (p := ⟨wr.heap.size, 1, none⟩) (Nat.lt_of_lt_of_le (Nat.lt_of_lt_of_le hqe hbf'.size) hbh.size)).trans z1g; have z2h := (hbj.cell (p := ⟨wr.heap.size, 2, none⟩) (Nat.lt_of_lt_of_le (Nat.lt_of_lt_of_le hqe hbf'.size) hbh.size)).trans z2g))
              have HBK := Lib.hid hbk
              clear hbf hbf' hbg hbh hbi hbj hbk z0 z1 z2 z0f z1f z2f z0g z1g z2g z0h z1h z2h
              go_wp2_with fail
              go_roundw
              case rel => exact ⟨k2 + 1, by omega, by go_num, below_trans hbr HBK.out⟩
              case measure => simp [intOf]; omega
            · obtain rfl : k2 = 3 := by omega
              have HSTr := Lib.hid (HST.out.below hbr)
              have HXr := Lib.hid (HXS.out.below hbr)
              obtain ⟨wc, hwc⟩ : ∃ wc : World, wc = wr := ⟨_, rfl⟩
              rw [← hwc] at HSTr HXr
              rw [← hwc]
              clear hwc HST HXS HP3 hbr
              go_wp2_with fail
              go_loopw [118] (fun i ws => ∃ k3 : Nat, k3 ≤ XS.length ∧ i = .int .i64 k3 ∧ Below wc.heap.size wc ws) (fun i _ => XS.length - (intOf i).toNat)
              case atStart => exact ⟨0, Nat.zero_le _, rfl, Below.refl _ _⟩
              case round =>
                obtain ⟨k3, hk3, rfl, hbs⟩ := hrel
                have HSTs := Lib.hid (HSTr.out.below hbs)
                by_cases hk3l : k3 < XS.length
                · obtain ⟨b, off, B, c', rfl, hbl, -, x0, x1, hBI⟩ := (HXr.out.below hbs).at_ k3 hk3l
                  have hj : k3 % h < N.length := by rw [HNL.out]; exact Nat.mod_lt _ (by omega)
                  obtain ⟨b2, off2, B2, c2', rfl, hb2, -, u0, u1, hU, -⟩ := HSTs.out.ll.nat hj
                  have hvl := HVL.out (k3 % h) (Nat.mod_lt _ (by omega))
                  have hsv := HXW.out k3 hk3l
                  have h3 : ¬ (h : Int) = 0 := by omega
                  have h4 : ((h : Int) == 0) = false := by simp; omega
                  have em : ((k3 : Int)).tmod (h : Int) = ((k3 % h : Nat) : Int) := by rw [Int.tmod_eq_emod_of_nonneg (by omega)]; rfl
                  have hjh : k3 % h < h := Nat.mod_lt _ (by omega)
                  have HA1 := Lib.hid (fun (W : World) (hb : Below wr.heap.size wr W) => addS_any p n h (hS XS k3) (hN N (k3 % h)) B B2 (vS XS k3) (ofN (vN N (k3 % h))) c' c2' W (prime_eq p) ((HSTs.out.env.bases HB.out).keep hb) (hBI.ints.below hb) (hU.below hb).ints (by omega) (by rw [len_ofN]; omega))
                  have HA2 := Lib.hid (fun (W : World) (hb : Below wr.heap.size wr W) => refAddS_any p n h (hS XS k3) (hN N (k3 % h)) B B2 (vS XS k3) (ofN (vN N (k3 % h))) c' c2' W (prime_eq p) (hBI.ints.below hb) (hU.below hb).ints (by omega) (by rw [len_ofN]; omega))
                  rw [len_ofN] at HA1 HA2
                  have hal := adL_len (p := p) (n := n) (h := h) (x := hS XS k3) (y := hN N (k3 % h)) (L := vS XS k3) (M := ofN (vN N (k3 % h))) (by omega) (by rw [len_ofN]; omega)
                  generalize adX p n h (hS XS k3) (hN N (k3 % h)) (vS XS k3) (ofN (vN N (k3 % h))) = ax at *
                  generalize adL p n h (hS XS k3) (hN N (k3 % h)) (vS XS k3) (ofN (vN N (k3 % h))) = al at *
                  generalize adE p n h (hS XS k3) (hN N (k3 % h)) (vS XS k3) (ofN (vN N (k3 % h))) = ae at *
                  generalize hN N (k3 % h) = yh at *
                  generalize vN N (k3 % h) = yv at *
                  generalize k3 % h = j at *
                  generalize hS XS k3 = sx at *
                  generalize vS XS k3 = sv at *
                  have j1 : (0 : Int) ≤ (j : Int) := by omega
                  have j2 : (j : Int) < (h : Int) := by omega
                  have p0 := HSTs.out.pp.c0
                  have p1 := HSTs.out.pp.c1
                  have p2 := HSTs.out.pp.c2
                  have hpl := HSTs.out.pp.lt
                  clear hBI hU hvl
                  go_wp2_with fail
                  refine gen_calls fun wd hwd => ?_
                  have hbd : Below wr.heap.size wr wd := by rw [hwd]; exact bl_alloc _ (below_alloc _ _)
                  have HSa : Hid (ShCell wd wr.heap.size sx (.slice B sv.length c')) := Lib.hid (by rw [hwd]; exact (ShCell.new _ _ rfl).alloc _)
                  have HSb : Hid (ShCell wd (wr.heap.size + 1) yh (.slice B2 yv.length c2')) := Lib.hid (by rw [hwd]; exact ShCell.new _ _ (by simp))
                  have HPd := Lib.hid (HSTs.out.pp.below hbd)
                  clear hwd x0 x1 u0 u1 p0 p1 p2
                  refine (HA1.out _ hbd).mono ?_
                  rintro e we ⟨A1, k1, rfl, hN1, hO1, -, hb1⟩
                  have HI1 : Hid (IntsP (fun _ => True) we A1 k1 (ofN al)) := Lib.hid ⟨hN1.ints, by rw [len_ofN]; exact hO1.iok, fun b off e => .inr trivial⟩
                  have hbe := below_trans hbd hb1
                  replace HSa := Lib.hid (HSa.out.below hb1)
                  replace HSb := Lib.hid (HSb.out.below hb1)
                  replace HPd := Lib.hid (HPd.out.below hb1)
                  have sa0 := HSa.out.c0
                  have sa1 := HSa.out.c1
                  have sb0 := HSb.out.c0
                  have sb1 := HSb.out.c1
                  have p0 := HPd.out.c0
                  have p1 := HPd.out.c1
                  have p2 := HPd.out.c2
                  have l1 := HSa.out.lt
                  have l2 := HSb.out.lt
                  have l3 := HPd.out.lt
                  clear hN1 hO1 hb1 hbd HA1
                  go_wp2_with fail
                  refine gen_calls fun wf hwf => ?_
                  have hbf0 : Below we.heap.size we wf := by rw [hwf]; exact below_alloc _ _
                  have hbf := below_trans hbe hbf0
                  have HSu : Hid (ShCell wf we.heap.size ax (.slice A1 al.length k1)) := Lib.hid (by rw [hwf]; exact ShCell.new _ _ rfl)
                  replace HI1 := Lib.hid (HI1.out.keep (Kept.below hbf0))
                  clear hwf hbf0 hbe sa0 sa1 sb0 sb1 p0 p1 p2 l1 l2 l3 HSa HSb HPd
                  refine (HA2.out _ hbf).mono ?_
                  rintro e wg ⟨A2, k2, rfl, hN2, hO2, -, hb2⟩
                  have HI2 : Hid (IntsP (fun _ => True) wg A2 k2 (ofN al)) := Lib.hid ⟨hN2.ints, by rw [len_ofN]; exact hO2.iok, fun b off e => .inr trivial⟩
                  replace HI1 := Lib.hid (HI1.out.keep (Kept.below hb2))
                  replace HSu := Lib.hid (HSu.out.below hb2)
                  have hbg := below_trans hbf hb2
                  have s0 := HSu.out.c0
                  have s1 := HSu.out.c1
                  have l1 := HSu.out.lt
                  have her : (ae != ae) = false := by simp
                  clear hN2 hO2 hb2 hbf HA2
                  go_wp2_with fail
                  refine gen_calls fun wh hwh => ?_
                  have hbh0 : Below wg.heap.size wg wh := by rw [hwh]; exact bl_alloc _ (bl_alloc _ (below_alloc _ _))
                  have HL1 : Hid (wh.heap[wg.heap.size + 1]? = some (.cells #[.int .i64 ax, .slice A1 al.length k1] 47 (0, 0))) := Lib.hid (by rw [hwh]; exact blk3_2 _ _ _ _)
                  have HL2 : Hid (wh.heap[wg.heap.size + 1 + 1]? = some (.cells #[.int .i64 ax, .slice A2 al.length k2] 47 (0, 0))) := Lib.hid (by rw [hwh]; exact blk3_3 _ _ _ _)
                  clear hwh s0 s1 l1
                  refine ret_below (same_sh _ _ [(ax, ofN al)] 1 1 1 1 wh (lit_sh (P := fun _ => True) (x := ax) (by rw [len_ofN]; exact HL1.out) trivial (HI1.out.keep (Kept.below hbh0))) (lit_sh (P := fun _ => True) (x := ax) (by rw [len_ofN]; exact HL2.out) trivial (HI2.out.keep (Kept.below hbh0))) (short_one (by rw [len_ofN]; omega)) (by simp) rfl rfl) ?_
                  intro wz hbz
                  have HBZ := Lib.hid (below_trans (below_trans hbg hbh0) hbz)
                  clear hbz hbh0 hbg
                  go_wp2_with fail
                  go_roundw
                  case rel =>
                    repeat (apply Exists.intro)
                    refine And.intro ?_ rfl
                    exact ⟨k3 + 1, by omega, by go_num, hbs.trans (HBZ.out.mono hbs.size)⟩
                  case measure => simp [intOf]; omega
                · obtain rfl : k3 = XS.length := by omega
                  go_wp2_with fail
                  go_roundw
                  case rel => exact ⟨k + 1, _, by omega, by go_num, HSTs.out⟩
                  case measure => simp [intOf]; omega
        · obtain rfl : k = 5 := by omega
          obtain ⟨b2, off2, B2, c2', rfl, hb2, -, u0, u1, hU, -⟩ := HST.out.ll.nat (show 0 < N.length by rw [HNL.out]; omega)
          rw [Nat.zero_mul, Nat.add_zero] at u0 u1
          have HV0 := Lib.hid (HVL.out 0 (by omega))
          have HVP0 := Lib.hid (HVP.out 0 (by omega))
          have h0 : (0 : Int) < (h : Int) := by omega
          have h00 : 0 < h := by omega
          have h01 : ¬ h = 0 := by omega
          have h02 : ¬ (h : Int) ≤ 0 := by omega
          have p0 := HST.out.pp.c0
          have p1 := HST.out.pp.c1
          have p2 := HST.out.pp.c2
          have hpl := HST.out.pp.lt
          go_wp2_with fail
          refine ret_pure (mod_any cc p _ (by omega)) ?_
          obtain ⟨z, hz, hzp⟩ : ∃ z : Nat, modI cc (p : Int) = (z : Int) ∧ z < p := by have := modI_range cc p (by omega); exact ⟨(modI cc p).toNat, by omega, by omega⟩
          rw [hz]
          clear hz
          generalize hN N 0 = yh at *
          generalize vN N 0 = yv at *
          have HU := Lib.hid hU
          have HS1 := Lib.hid (fun (W : World) (hb : Below wr.heap.size wr W) => scale_any p n h yh B2 yv c2' z W h1 hp2 (HU.out.below hb) HVP0.out hzp (by rw [HV0.out]; omega))
          have HS2 := Lib.hid (fun (W : World) (hb : Below wr.heap.size wr W) => refScale_any p n h yh B2 yv c2' z W h1 hp2 (HU.out.below hb) HVP0.out hzp (by rw [HV0.out]; omega))
          have hrl : (linN p [] yv z).length ≤ 1000 := by rw [lin0_len, HV0.out]; omega
          generalize linN p [] yv z = RR at *
          clear hU
          go_wp2_with fail
          go_region_held3 (fun w' => w'.cell? ⟨px, 0, none⟩ = some (.int .i64 (p : Int)) ∧ w'.cell? ⟨px, 1, none⟩ = some (.int .i64 (n : Int)) ∧ w'.cell? ⟨px, 2, none⟩ = some (.int .i64 (h : Int)) ∧ w'.cell? ⟨b2, off2, none⟩ = some (.int .i64 (yh : Int)) ∧ w'.cell? ⟨b2, off2 + 1, none⟩ = some (.slice B2 yv.length c2')) (first | go_keep)
            (first
              | (go_at_call 37; refine (HS1.out _ (by first | exact Below.refl _ _ | exact below_drewT _)).mono ?_; rintro e wA ⟨A1, k1, rfl, hN1, hO1, -, hbA⟩; have hbA' : Below wr.heap.size wr wA := (by first | exact hbA | exact below_undrew1 hbA); have HI1 : Hid (IntsP (fun _ => True) wA A1 k1 (ofN RR)) := (Lib.hid ⟨hN1.ints, by rw [len_ofN]; exact hO1.iok, fun b off e => .inr trivial⟩); have ca0 := (hbA'.cell (p := ⟨px, 0, none⟩) hpl).trans p0; have ca1 := (hbA'.cell (p := ⟨px, 1, none⟩) hpl).trans p1; have ca2 := (hbA'.cell (p := ⟨px, 2, none⟩) hpl).trans p2; have ca3 := (hbA'.cell (p := ⟨b2, off2, none⟩) hb2).trans u0; have ca4 := (hbA'.cell (p := ⟨b2, off2 + 1, none⟩) hb2).trans u1)
              | (go_at_call 38; refine (HS2.out _ (by first | exact hbA' | exact bl_alloc _ hbA')).mono ?_; rintro e wB ⟨A2, k2, rfl, hN2, hO2, -, hbB⟩; (first | (have hbB' : Below wA.heap.size wA wB := hbB) | (have hbB' : Below wA.heap.size wA wB := below_trans (below_alloc _ _) hbB; have HL1 : Hid (wB.heap[wA.heap.size]? = some (.cells #[.int .i64 (yh : Int), .slice A1 RR.length k1] 47 (0, 0))) := Lib.hid ((hbB.block _ (by simp)).trans (heap_alloc_new _ _)))); have hbW : Below wr.heap.size wr wB := below_trans hbA' hbB'; have HI2 : Hid (IntsP (fun _ => True) wB A2 k2 (ofN RR)) := (Lib.hid ⟨hN2.ints, by rw [len_ofN]; exact hO2.iok, fun b off e => .inr trivial⟩); replace HI1 := Lib.hid (HI1.out.keep (Kept.below hbB')); have cb0 := (hbW.cell (p := ⟨px, 0, none⟩) hpl).trans p0; have cb1 := (hbW.cell (p := ⟨px, 1, none⟩) hpl).trans p1; have cb2 := (hbW.cell (p := ⟨px, 2, none⟩) hpl).trans p2; have cb3 := (hbW.cell (p := ⟨b2, off2, none⟩) hb2).trans u0; have cb4 := (hbW.cell (p := ⟨b2, off2 + 1, none⟩) hb2).trans u1)
              | (go_at_call 22; refine ret_below (same_sh _ _ [((yh : Int), ofN RR)] 1 1 1 1 _ (lit_sh (P := fun _ => True) (x := (yh : Int)) (by rw [len_ofN]; first | exact blk_old _ HL1.out | exact blk2_1 _ _ _ | exact blk2_2 _ _ _) trivial (HI1.out.keep (Kept.below (by (repeat (first | exact bl_refl _ | apply bl_drew | apply bl_alloc)))))) (lit_sh (P := fun _ => True) (x := (yh : Int)) (by rw [len_ofN]; first | exact heap_alloc_new _ _ | exact blk2_2 _ _ _ | exact blk2_1 _ _ _) trivial (HI2.out.keep (Kept.below (by (repeat (first | exact bl_refl _ | apply bl_drew | apply bl_alloc)))))) (short_one (by rw [len_ofN]; omega)) (by simp) rfl rfl) ?_; intro wC hbC; have hbX : Below wr.heap.size wr wC := below_trans (by (repeat (first | exact hbW | apply bl_drew | apply bl_alloc))) hbC; have cx0 := (hbX.cell (p := ⟨px, 0, none⟩) hpl).trans p0; have cx1 := (hbX.cell (p := ⟨px, 1, none⟩) hpl).trans p1; have cx2 := (hbX.cell (p := ⟨px, 2, none⟩) hpl).trans p2; have cx3 := (hbX.cell (p := ⟨b2, off2, none⟩) hb2).trans u0; have cx4 := (hbX.cell (p := ⟨b2, off2 + 1, none⟩) hb2).trans u1)
              | (go_at_call 11; refine ret_below (awake_any _ ((HST.out.env.bases HB.out).keep (by first | exact hbX | exact bl_alloc _ hbX))) ?_; intro wD hbD; have hbY : Below wr.heap.size wr wD := below_trans hbX hbD; have cd0 := (hbY.cell (p := ⟨px, 0, none⟩) hpl).trans p0; have cd1 := (hbY.cell (p := ⟨px, 1, none⟩) hpl).trans p1; have cd2 := (hbY.cell (p := ⟨px, 2, none⟩) hpl).trans p2; have cd3 := (hbY.cell (p := ⟨b2, off2, none⟩) hb2).trans u0; have cd4 := (hbY.cell (p := ⟨b2, off2 + 1, none⟩) hb2).trans u1))
          all_goals
            go_wp2_with fail
            go_ret
            exact RetB.bool rfl (HST.out.env.mv hbY).below
  · have hL := light_any A0 L0.length c0 w
    rw [decide_eq_false hlight] at hL
    have HLt := Lib.hid hL
    clear hL
    go_enter Tryd.func6, Tryd.ntmps6
    go_wp2_with fail
    refine ret_pure HLt.out ?_
    go_wp2_with fail
    refine ret_below (awake_any _ HB.out) ?_
    intro w1 hb1
    go_wp2_with fail
    go_ret
    exact RetB.bool rfl hb1
end Go.Proofs.YtkjpnhhkebbmdaaDoor
namespace Go.Proofs.YtkjpnhhkebbmdaaDoor
open Go.RowKit

theorem cell_block_lt {w : World} {a : Addr} {v : Value} (h : w.cell? a = some v) : a.block < w.heap.size := by
  rcases Nat.lt_or_ge a.block w.heap.size with hlt | hge
  · exact hlt
  · unfold World.cell? at h; simp [Array.getElem?_eq_none hge] at h
theorem open_row {W : World} {x : Addr} {len cap : Nat} {zs : List Int} (hl : len ≤ cap) (hm : cap ≤ maxLen) (hz : zs.length = cap) (hcell : ∀ i, i < zs.length → W.cell? (x.add i) = some (.int .i64 (zs.getD i 0)))
    (hb : ∀ n ∈ zs, -9223372036854775808 ≤ n ∧ n ≤ 9223372036854775807) :
    ∃ ys : List Int, ys.length = len ∧ ys.length ≤ maxLen ∧ IntsAt W (some x) ys ∧ ∀ n ∈ ys, -9223372036854775808 ≤ n ∧ n ≤ 9223372036854775807 := by
  refine ⟨zs.take len, by simp; omega, by simp; omega, fun k hk => ?_, fun n hn => hb n (List.mem_of_mem_take hn)⟩
  have hk' : k < len := by simpa using Nat.lt_of_lt_of_le hk (List.length_take_le _ _)
  have h0 := hcell 0 (by omega)
  have hk0 := hcell k (by omega)
  obtain ⟨b, off, spot⟩ := x
  have hs : spot = none := by simpa [Addr.add] using World.cell?_spot h0
  subst hs
  have hlt := cell_block_lt hk0
  refine ⟨b, off, rfl, ?_, ?_⟩
  · unfold Addr.add at hlt; split at hlt <;> exact hlt
  · have e : (⟨b, off, none⟩ : Addr).add k = ⟨b, off + k, none⟩ := by
      unfold Addr.add; split
      · rename_i h; subst h; rfl
      · rfl
    rw [← e, hk0, nth_eq hk]
    simp [List.getD_eq_getElem?_getD, show k < zs.length by omega]
end Go.Proofs.YtkjpnhhkebbmdaaDoor
namespace Go.Proofs.YtkjpnhhkebbmdaaDoor
open Go.RowKit

theorem open_rowx {W : World} {x : Addr} {len cap : Nat} {zs : List Int} (hl : len ≤ cap) (hm : cap ≤ maxLen) (hz : zs.length = cap) (hcell : ∀ i, i < zs.length → W.cell? (x.add i) = some (.int .i64 (zs.getD i 0)))
    (hb : ∀ n ∈ zs, -9223372036854775808 ≤ n ∧ n ≤ 9223372036854775807) :
    ∃ ys : List Int, ys.length = len ∧ IOK (some x) cap ys.length ∧ IntsAt W (some x) ys ∧ ∀ n ∈ ys, -9223372036854775808 ≤ n ∧ n ≤ 9223372036854775807 := by
  obtain ⟨ys, h1, h2, h3, h4⟩ := open_row hl hm hz hcell hb
  refine ⟨ys, h1, ⟨by omega, hm, (fun e => by cases e), ?_⟩, h3, h4⟩
  rcases Nat.eq_zero_or_pos ys.length with h0 | h0
  · exact .inl h0
  · obtain ⟨b, off, e, _⟩ := h3 0 h0
    injection e with e
    subst e
    exact .inr fun a e2 => by injection e2 with e2; subst e2; rfl
end Go.Proofs.YtkjpnhhkebbmdaaDoor
namespace Go.Proofs.YtkjpnhhkebbmdaaDoor
open Go.RowKit Go.ChangeShapes Go.WideShapes

theorem add_none (b off j : Nat) : (⟨b, off, none⟩ : Addr).add j = ⟨b, off + j, none⟩ := by
  unfold Addr.add; split
  · rename_i h; subst h; rfl
  · rfl
theorem open_shares {H : Type} {enc : TypeId × Value → H} {w : World} {base : Nat} {held : Bool} {n : Nat} {v : Value} {y : DataW H × List MemPlace} (h : DataW.trod enc Tryd.prog w base (fun _ => true) held n 37 [v] = some y) :
    ∃ (B : Option Addr) (S : List Shr) (c : Nat), v = .slice B S.length c ∧ S.length ≤ maxLen ∧ ShP (fun _ => True) w B c S := by
  rcases Deep.open_slice_pairs Tryd.underlying37 Tryd.underlying47 (by kernel_rfl) rfl rfl (by kernel_rfl) (by kernel_rfl) h with ⟨hcs, _⟩ | ⟨a, len, cap, m, n', V0, V1, D0, D1, P0, P1, hcs, _, hl, hm, hmm, _, hx⟩
  · simp only [List.cons.injEq, and_true] at hcs
    subst hcs
    exact ⟨none, [], 0, rfl, by simp [maxLen], ShP.nil _ _⟩
  · simp only [List.cons.injEq, and_true] at hcs
    subst hcs
    have hlm : len ≤ m := by rw [hmm]; split <;> omega
    have each : ∀ i, i < m → ∃ q : Int × List Int, w.cell? (a.add (i * 2)) = some (.int .i64 q.1) ∧ ∃ B c, w.cell? (a.add (i * 2 + 1)) = some (.slice B q.2.length c) ∧ IntsP (fun _ => True) w B c q.2 := fun i hi => by
      obtain ⟨h1, h2, h3, h4⟩ := hx i hi
      obtain ⟨t, e1, _, _⟩ := DataW.trod_int Tryd.underlying3 h3
      simp only [List.cons.injEq, and_true] at e1
      rcases open_ints Tryd.underlying22 Tryd.underlying3 (by kernel_rfl) h4 with ⟨hcs, _⟩ | ⟨x, l, c, zs, hcs, _, hl', hm', hz, _, hcell, hwz⟩
      · simp only [List.cons.injEq, and_true] at hcs
        exact ⟨(t, []), by rw [h1, e1], none, 0, by rw [h2, hcs]; rfl, IntsAt.nil _ _, IOK.none0, fun b off e => by cases e⟩
      · simp only [List.cons.injEq, and_true] at hcs
        obtain ⟨ys, g1, g2, g3, _⟩ := open_rowx hl' hm' (by simpa using hz) hcell (fun n hn => bounds_i64 (hwz n hn))
        exact ⟨(t, ys), by rw [h1, e1], some x, c, by rw [h2, hcs, g1], g3, g2, fun b off e => .inr trivial⟩
    have hq : ∃ q : Nat → Int × List Int, ∀ i, i < m → w.cell? (a.add (i * 2)) = some (.int .i64 (q i).1) ∧ ∃ B c, w.cell? (a.add (i * 2 + 1)) = some (.slice B (q i).2.length c) ∧ IntsP (fun _ => True) w B c (q i).2 :=
      ⟨fun i => if h : i < m then (each i h).choose else (0, []), fun i hi => by simp only [dif_pos hi]; exact (each i hi).choose_spec⟩
    obtain ⟨q, hq⟩ := hq
    have hlen : ((List.range len).map q).length = len := by simp
    have hspot : 0 < len → a.spot = none := fun h0 => by
      have := World.cell?_spot (hq 0 (by omega)).1
      simpa [Addr.add] using this
    refine ⟨some a, (List.range len).map q, cap, by rw [hlen], by rw [hlen]; omega, fun k hk => ?_, by rw [hlen]; omega, hm, (fun e => by cases e), ?_⟩
    · rw [hlen] at hk
      have hs := hspot (by omega)
      obtain ⟨b, off, spot⟩ := a
      have hs : spot = none := hs
      subst hs
      obtain ⟨h1, B, c, h2, h3⟩ := hq k (by omega)
      rw [add_none] at h1 h2
      have hlt := cell_block_lt h1
      have e1 : hS ((List.range len).map q) k = (q k).1 := by simp [hS, List.getD_eq_getElem?_getD, hk]
      have e2 : vS ((List.range len).map q) k = (q k).2 := by simp [vS, List.getD_eq_getElem?_getD, hk]
      refine ⟨b, off, B, c, rfl, hlt, trivial, ?_, ?_, ?_⟩
      · rw [h1, e1]
      · rw [show off + k * 2 + 1 = off + (k * 2 + 1) by omega, h2, e2]
      · rw [e2]; exact h3
    · rcases Nat.eq_zero_or_pos len with h0 | h0
      · exact .inl (by rw [hlen]; exact h0)
      · exact .inr fun a' e => by injection e with e; subst e; exact hspot h0
end Go.Proofs.YtkjpnhhkebbmdaaDoor
