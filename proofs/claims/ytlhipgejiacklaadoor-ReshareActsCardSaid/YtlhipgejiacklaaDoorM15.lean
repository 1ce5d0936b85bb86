/-
  ReshareActs: the walk.
  A slice of numbers that came in reads as a list.
  Lists of numbers that came in, with what is known of their room.
  A slice of shares that came in reads as a list of shares.
  Conditions: those that each theorem names.
-/
import Derived.Test.YtlhipgejiacklaaDoorM14
import Derived.Deep.SlicePairs
import Derived.ChangeArms
import Derived.OpenShut
set_option linter.unusedVariables false
set_option linter.unusedSimpArgs false
namespace Go.Proofs.YtlhipgejiacklaaDoor
open Go.RowKit

attribute [local go_sem high] sliced_low
set_option maxRecDepth 100000 in
set_option maxHeartbeats 8000000 in
theorem reshareActs_walk (A0 : Option Addr) (L0 : List Int) (c0 : Nat) (RA : Option Addr) (RS : List Shr) (rc : Nat) (A1 : Option Addr) (L1 : List Int) (c1 : Nat) (A2 : Option Addr) (L2 : List Int) (c2 : Nat) (w : World) (hB : Bases w) (hl0 : L0.length ≤ maxLen) (hI0 : IntsAt w A0 L0) (_ : ∀ n ∈ L0, -9223372036854775808 ≤ n ∧ n ≤ 9223372036854775807)
    (hrl : RS.length ≤ maxLen) (hRS : ShP (fun _ => True) w RA rc RS) (hok1 : IOK A1 c1 L1.length) (hI1 : IntsAt w A1 L1) (_ : ∀ n ∈ L1, -9223372036854775808 ≤ n ∧ n ≤ 9223372036854775807) (hok2 : IOK A2 c2 L2.length) (hI2 : IntsAt w A2 L2) (_ : ∀ n ∈ L2, -9223372036854775808 ≤ n ∧ n ≤ 9223372036854775807) :
    Calls Tryd.prog 8 #[.slice A0 L0.length c0, .slice RA RS.length rc, .slice A1 L1.length c1, .slice A2 L2.length c2] w (RetB (.bool true) w) := by
  have HB := Lib.hid hB
  clear hB
  by_cases hlight : (L0.length : Int) ≤ 500
  · have hL := light_any A0 L0.length c0 w
    rw [decide_eq_true hlight] at hL
    have HLt := Lib.hid hL
    clear hL hlight
    have hsm := small_any RA rc RS w hRS hrl
    cases hsb : smB RS with
    | false =>
      rw [hsb] at hsm
      have HSM := Lib.hid hsm
      clear hsm hsb
      go_enter Tryd.func8, Tryd.ntmps8
      go_wp2_with fail
      refine ret_pure HLt.out ?_
      go_wp2_with fail
      refine ret_below HSM.out ?_
      intro w1 hb1
      go_wp2_with fail
      refine ret_below (awake9 _ (HB.out.keep hb1)) ?_
      intro w2 hb2
      go_wp2_with fail
      go_ret
      exact RetB.bool rfl (below_trans hb1 hb2)
    | true =>
      rw [hsb] at hsm
      have HSM := Lib.hid hsm
      obtain ⟨hr12, hrW⟩ := smB_of hsb
      have HRW := Lib.hid hrW
      have HRS := Lib.hid hRS
      clear hsm hsb hrW hRS hrl
      by_cases hlx : ¬ (12 : Int) < (L1.length : Int) ∧ ¬ (40 : Int) < (L2.length : Int)
      · obtain ⟨hl10, hl20⟩ := hlx
        have t10 : decide ((12 : Int) < (L1.length : Int)) = false := decide_eq_false hl10
        have t20 : decide ((40 : Int) < (L2.length : Int)) = false := decide_eq_false hl20
        have hl1 : L1.length ≤ 12 := by omega
        have hl2 : L2.length ≤ 40 := by omega
        have HI1 := Lib.hid hI1
        have HK1 := Lib.hid hok1
        have HI2 := Lib.hid hI2
        have HK2 := Lib.hid hok2
        clear hI1 hok1 hI2 hok2
        go_enter Tryd.func8, Tryd.ntmps8
        go_wp2_with fail
        refine ret_pure HLt.out ?_
        clear HLt
        go_wp2_with fail
        refine ret_below HSM.out ?_
        intro w0 hb0
        clear HSM
        go_wp2_with fail
        refine (roll_any A0 L0 c0 _ hl0 (hI0.below hb0)).mono ?_
        rintro e w1 ⟨D, rfl, hDs, hD, hb1⟩
        have hDw : w.heap.size ≤ D := Nat.le_trans hb0.size hDs
        have hE1 : Env w w1 D L0 := ⟨hD, hDw, below_trans hb0 hb1⟩
        have HR : Hid (ShP (· ≠ D) w1 RA rc RS) := Lib.hid ((HRS.out.mono (Q := (· ≠ D)) (fun b hb _ => by omega)).below hE1.below)
        have HF : Hid (IntsP (· ≠ D) w1 A1 c1 L1) := Lib.hid ⟨HI1.out.below hE1.below, HK1.out, fun b off e => by
          rcases Nat.eq_zero_or_pos L1.length with h0 | h0
          · exact .inl h0
          · obtain ⟨b2, off2, e2, hlt2, -⟩ := HI1.out 0 h0
            rw [e2] at e; injection e with e; injection e with e; exact .inr (by omega)⟩
        have HI : Hid (IntsP (· ≠ D) w1 A2 c2 L2) := Lib.hid ⟨HI2.out.below hE1.below, HK2.out, fun b off e => by
          rcases Nat.eq_zero_or_pos L2.length with h0 | h0
          · exact .inl h0
          · obtain ⟨b2, off2, e2, hlt2, -⟩ := HI2.out 0 h0
            rw [e2] at e; injection e with e; injection e with e; exact .inr (by omega)⟩
        clear hI0 hD hb1 hb0 HRS HI1 HK1 HI2 HK2 hDs t10 t20 hl10 hl20
        go_wp2_with fail
        refine (prime_any D L0 _ hE1.dice).mono ?_
        rintro e w2 ⟨p, rfl, hpp, hp5, -, hD2, hg2⟩
        have hE2 := hE1.next hD2 hg2
        have h2 := hpp.1
        have h1 : 1 ≤ p := by omega
        have hp2 : p ≤ 2147483648 := by omega
        have HPP := Lib.hid hpp
        replace HR := Lib.hid (HR.out.mv hg2)
        replace HF := Lib.hid (HF.out.keep (Kept.mv hg2))
        replace HI := Lib.hid (HI.out.keep (Kept.mv hg2))
        clear hg2 hD2 hE1 hpp
        go_wp2_with fail
        refine (plan_any D _ p _ hE2.dice h2 hp2).mono ?_
        rintro e w3 ⟨n, h, R3, rfl, ⟨hn1, hnh, hh7, hhp⟩, hD3, hg3⟩
        have hE3 := hE2.next hD3 hg3
        have HPN := Lib.hid (PlanN.mk' HPP.out (by omega) hn1 hnh hh7 hhp)
        replace HR := Lib.hid (HR.out.mv hg3)
        replace HF := Lib.hid (HF.out.keep (Kept.mv hg3))
        replace HI := Lib.hid (HI.out.keep (Kept.mv hg3))
        clear hD3 hg3 hE2
        go_wp2_with fail
        refine gen_calls fun w4 hw4 => ?_
        have hb4 : Below w3.heap.size w3 w4 := by rw [hw4]; exact below_alloc _ _
        have HP : Hid (PlanCell w4 w3.heap.size p n h) := Lib.hid (by rw [hw4]; exact PlanCell.new _ _ _ rfl)
        have hE : Env w w4 D R3 := hE3.mv hb4
        replace HR := Lib.hid (HR.out.below hb4)
        replace HF := Lib.hid (HF.out.keep (Kept.below hb4))
        replace HI := Lib.hid (HI.out.keep (Kept.below hb4))
        have hxD : w3.heap.size ≠ D := by have := hE3.lt; omega
        clear hw4 hb4 hE3
        generalize w3.heap.size = px at *
        refine (plan_any D _ p _ hE.dice h2 hp2).mono ?_
        rintro e w5 ⟨n0, h0, R5, rfl, ⟨hn01, hnh0, hh07, hhp0⟩, hD5, hg5⟩
        replace hE := hE.next hD5 hg5; replace HP := Lib.hid (HP.out.mv hg5 hxD); replace HR := Lib.hid (HR.out.keep (Kept.mv hg5)); replace HF := Lib.hid (HF.out.keep (Kept.mv hg5)); replace HI := Lib.hid (HI.out.keep (Kept.mv hg5))
        clear hD5 hg5
        have hlx5 := HP.out.lt
        have hxy : px ≠ w5.heap.size := by omega
        have hwy : w.heap.size ≤ w5.heap.size := hE.below.size
        have hDy : D < w5.heap.size := hE.lt
        have HR6 : Hid (ShP (fun b => b ≠ D ∧ b ≠ w5.heap.size) w5 RA rc RS) := Lib.hid (HR.out.mono (fun b hb h => ⟨h, by omega⟩))
        have HF6 : Hid (IntsP (fun b => b ≠ D ∧ b ≠ w5.heap.size) w5 A1 c1 L1) := Lib.hid (HF.out.mono (fun b hb h => ⟨h, by omega⟩))
        have HI6 : Hid (IntsP (fun b => b ≠ D ∧ b ≠ w5.heap.size) w5 A2 c2 L2) := Lib.hid (HI.out.mono (fun b hb h => ⟨h, by omega⟩))
        clear HR HF HI
        go_wp2_with fail
        refine gen_calls fun w6 hw6 => ?_
        have hb6 : Below w5.heap.size w5 w6 := by rw [hw6]; exact below_alloc _ _
        have HQ : Hid (PlanCell w6 w5.heap.size p n0 h0) := Lib.hid (by rw [hw6]; exact PlanCell.new _ _ _ rfl)
        have hyD : w5.heap.size ≠ D := by omega
        replace hE := hE.mv hb6; replace HP := Lib.hid (HP.out.below hb6); replace HR6 := Lib.hid (HR6.out.keep (Kept.below hb6)); replace HF6 := Lib.hid (HF6.out.keep (Kept.below hb6)); replace HI6 := Lib.hid (HI6.out.keep (Kept.below hb6))
        clear hw6 hb6 hlx5
        generalize w5.heap.size = py at *
        refine (next_nat D _ 8 _ hE.dice (by omega) (by omega)).mono ?_
        rintro e w7 ⟨k8, rfl, hk8, hD7, hg7⟩
        replace hE := hE.next hD7 hg7; replace HP := Lib.hid (HP.out.mv hg7 hxD); replace HQ := Lib.hid (HQ.out.mv hg7 hyD)
        replace HR6 := Lib.hid (HR6.out.keep (Kept.mv2 hg7))
        replace HF6 := Lib.hid (HF6.out.keep (Kept.mv2 hg7))
        replace HI6 := Lib.hid (HI6.out.keep (Kept.mv2 hg7))
        clear hD7 hg7
        go_upto_block 0 with fail
        go_cut [] (fun wx => ∃ (p' n' h' : Int) (R' : List Int), -1 ≤ n' ∧ n' ≤ 8 ∧ PlanCell wx py p' n' h' ∧ PlanCell wx px p n h ∧ Env w wx D R' ∧ ShP (fun b => b ≠ D ∧ b ≠ py) wx RA rc RS ∧ IntsP (fun b => b ≠ D ∧ b ≠ py) wx A1 c1 L1 ∧ IntsP (fun b => b ≠ D ∧ b ≠ py) wx A2 c2 L2)
        case first =>
          have f0 := HQ.out.frozen 0
          have f1 := HQ.out.frozen 1
          have f2 := HQ.out.frozen 2
          have q0 := HQ.out.c0
          have q1 := HQ.out.c1
          have q2 := HQ.out.c2
          by_cases h81 : k8 = 1
          · subst h81
            clear f0 f1 f2 q0 q1 q2
            go_wp2_with fail
            refine (anyPlan_any D _ _ hE.dice).mono ?_
            rintro e wa ⟨P3, N3, Q3, R3', rfl, hab, hDa, hga⟩
            replace hE := hE.next hDa hga
            replace HP := Lib.hid (HP.out.mv hga hxD)
            replace HQ := Lib.hid (HQ.out.mv hga hyD)
            replace HR6 := Lib.hid (HR6.out.keep (Kept.mv2 hga))
            replace HF6 := Lib.hid (HF6.out.keep (Kept.mv2 hga))
            replace HI6 := Lib.hid (HI6.out.keep (Kept.mv2 hga))
            have f0 := HQ.out.frozen 0
            have f1 := HQ.out.frozen 1
            have f2 := HQ.out.frozen 2
            have q0 := HQ.out.c0
            have q1 := HQ.out.c1
            have q2 := HQ.out.c2
            have HAB := Lib.hid hab
            clear hab hDa hga
            go_wp2_with fail
            go_meet
            case rel => exact ⟨P3, N3, Q3, _, HAB.out.n1, HAB.out.n2, HQ.out.setP P3 N3 Q3, HP.out.keep (setP_block wa py P3 N3 Q3 px (by omega)), hE.app hDy (setP_below (Below.refl _ _) (Nat.le_refl _) P3 N3 Q3), HR6.out.keep (setP_kept wa py D P3 N3 Q3), HF6.out.keep (setP_kept wa py D P3 N3 Q3), HI6.out.keep (setP_kept wa py D P3 N3 Q3)⟩
          · have t81 : ((k8 : Int) == 1) = false := by simp; omega
            by_cases h82 : k8 = 2
            · subst h82
              have p0 := HP.out.c0
              have p1 := HP.out.c1
              have p2 := HP.out.c2
              go_wp2_with fail
              go_meet
              case rel => exact ⟨p, n, h, _, by omega, by omega, HQ.out.setP p n h, HP.out.keep (setP_block w7 py p n h px (by omega)), hE.app hDy (setP_below (Below.refl _ _) (Nat.le_refl _) p n h), HR6.out.keep (setP_kept w7 py D p n h), HF6.out.keep (setP_kept w7 py D p n h), HI6.out.keep (setP_kept w7 py D p n h)⟩
            · have t82 : ((k8 : Int) == 2) = false := by simp; omega
              go_wp2_with fail
              go_meet
              case rel => exact ⟨p, n0, h0, _, by omega, by omega, HQ.out, HP.out, hE, HR6.out, HF6.out, HI6.out⟩
        case rest =>
          clear HQ HP hE HR6 HF6 HI6 hn01 hnh0 hh07 hhp0
          obtain ⟨p', n', h', R8, hm1, hm8, HQ, HP, hE, HR, HF, HI⟩ := hcut
          have HQ := Lib.hid HQ
          have HP := Lib.hid HP
          have HR := Lib.hid (HR.mono (Q := (· ≠ D)) (fun b _ hb => hb.1))
          have HF := Lib.hid (HF.mono (Q := (· ≠ D)) (fun b _ hb => hb.1))
          have HI := Lib.hid (HI.mono (Q := (· ≠ D)) (fun b _ hb => hb.1))
          obtain ⟨w8, hw8⟩ : ∃ w8 : World, w8 = wc := ⟨_, rfl⟩
          rw [← hw8] at HQ HP hE HR HF HI
          rw [← hw8]
          clear hw8
          have p0 := HP.out.c0
          have p1 := HP.out.c1
          have p2 := HP.out.c2
          go_wp2_with fail
          refine (dealt_any D _ p n h 2 _ hE.dice HPN.out (by omega) (by omega)).mono ?_
          rintro e w9 ⟨SA, sac, sec, LA, lc, ran, R9, rfl, hdl, -, hLP, hD9, hg9⟩
          clear p0 p1 p2
          replace hE := hE.next hD9 hg9; replace HP := Lib.hid (HP.out.mv hg9 hxD); replace HQ := Lib.hid (HQ.out.mv hg9 hyD); replace HR := Lib.hid (HR.out.keep (Kept.mv hg9)); replace HF := Lib.hid (HF.out.keep (Kept.mv hg9)); replace HI := Lib.hid (HI.out.keep (Kept.mv hg9))
          have HL := Lib.hid hLP
          have HMD := Lib.hid (deal_Made HPN.out hdl.sp hdl.rp)
          have hsl := hdl.hi
          have hslo := hdl.lo
          have HNL : Hid ((dealN p n h sec ran).length = h) := Lib.hid (deal_len p n h sec ran)
          clear hdl hLP hD9 hg9
          generalize dealN p n h sec ran = N at *
          have HWN : Hid (Wide 2 (shL N)) := Lib.hid (HMD.out.wide hsl)
          have HV0 : Hid ((vN N 0).length = sec.length) := Lib.hid (HMD.out.vlen (by rw [HNL.out]; omega))
          obtain ⟨b2, off2, B2, c2', rfl, hb2, hb2D, u0, u1, -, -⟩ := HL.out.nat (show 0 < N.length by rw [HNL.out]; omega)
          rw [Nat.zero_mul, Nat.add_zero, HV0.out] at u1
          have h00 : 0 < h := by omega
          have h01 : (0 : Int) < (h : Int) := by omega
          clear u0
          have p0 := HP.out.c0
          have p1 := HP.out.c1
          have p2 := HP.out.c2
          have q0 := HQ.out.c0
          have q1 := HQ.out.c1
          have q2 := HQ.out.c2
          go_upto_region 13 with fail
          go_cut [15] from 94 to 103 (fun s15 wx => ∃ (GA : Option Addr) (gc : Nat) (good : List Nat) (R' : List Int), s15 = .slice GA good.length gc ∧ good.length ≤ 1000 ∧ (∀ x ∈ good, x < p) ∧ SlOK GA gc good ∧ IntsP (fun b => w9.heap.size ≤ b) wx GA gc (ofN good) ∧ DiceAt wx D R' ∧ w9.grownBy wx (some D))
          case first =>
            by_cases hn' : n' ≤ 1
            · have t1 : ¬ 1 < n' := by omega
              have hmx : max 1 n' = 1 := Int.max_eq_left hn'
              go_wp2_with fail
              have HE0 : Calls Tryd.prog 21 #[.pointer (some ⟨D, 0, none⟩), .int .i64 p, .int .i64 0] w9 (ElemsP D 0 p w9) := elements_any D _ p 0 w9 hE.dice h1 hp2 (by omega)
              refine HE0.mono ?_
              intro e w10 he
              obtain ⟨GA, gc, good, R10, rfl, hgl, hgp, hgo, hgI, hD10, hg10⟩ := elems_new he
              have HX := Lib.hid (And.intro hgp (And.intro hgo (And.intro hgI (And.intro hD10 hg10))))
              have HGL := Lib.hid hgl
              clear hgl hgp hgo hgI hD10 hg10 he HE0
              go_wp2_with fail
              go_meet
              case rel => exact ⟨GA, gc, good, R10, rfl, by have := HGL.out; omega, HX.out.1, HX.out.2.1, HX.out.2.2.1, HX.out.2.2.2.1, HX.out.2.2.2.2⟩
            · have t1 : ¬ n' ≤ 1 := hn'
              have hmx : max 1 n' = n' := Int.max_eq_right (by omega)
              obtain ⟨rl, hrl, hrl2⟩ : ∃ rl : Nat, (sec.length : Int) * (n' - 1) = (rl : Int) ∧ rl ≤ 1000 := by
                obtain ⟨m1, hm1⟩ : ∃ m1 : Nat, n' - 1 = (m1 : Int) := ⟨(n' - 1).toNat, by omega⟩
                refine ⟨sec.length * m1, by rw [hm1, Int.natCast_mul], ?_⟩
                have := Nat.mul_le_mul hsl (show m1 ≤ 7 by omega); omega
              go_wp2_with fail
              try rw [IntWalk.wrap64_in _ (by omega)]
              refine (elements_any D _ p rl w9 hE.dice h1 hp2 (by omega)).mono ?_
              intro e w10 he
              obtain ⟨GA, gc, good, R10, rfl, hgl, hgp, hgo, hgI, hD10, hg10⟩ := elems_new he
              have HX := Lib.hid (And.intro hgp (And.intro hgo (And.intro hgI (And.intro hD10 hg10))))
              have HGL := Lib.hid hgl
              clear hgl hgp hgo hgI hD10 hg10 he hrl
              go_wp2_with fail
              go_meet
              case rel => exact ⟨GA, gc, good, R10, rfl, by have := HGL.out; omega, HX.out.1, HX.out.2.1, HX.out.2.2.1, HX.out.2.2.2.1, HX.out.2.2.2.2⟩
          case rest =>
            clear p0 p1 p2 q0 q1 q2 u1 hb2 hb2D
            obtain ⟨GA, gc, good, R10, rfl, hgl, hgp, hgo, hgI, hD10, hg10⟩ := hcut
            obtain ⟨w10, hw10⟩ : ∃ w10 : World, w10 = wc := ⟨_, rfl⟩
            rw [← hw10] at hgI hD10 hg10
            rw [← hw10]
            clear hw10
            have hDw9 : D < w9.heap.size := hE.lt
            have HST : Hid (ASt w w10 D R10 px py p n h p' n' h' (some ⟨b2, off2, none⟩) lc N RA rc RS A1 c1 L1 A2 c2 L2 GA gc good) := Lib.hid ⟨hE.next hD10 hg10, HP.out.mv hg10 hxD, HQ.out.mv hg10 hyD, HL.out.mv hg10, HR.out.mv hg10, HF.out.keep (Kept.mv hg10), HI.out.keep (Kept.mv hg10), hgI.mono (fun b _ hb => by omega), hxD, hyD⟩
            have HGP := Lib.hid hgp
            have HGO := Lib.hid hgo
            clear hgI hgp hgo hE HP HQ HL HR HF HI hD10 hg10
            have hgl' := hgl
            go_wp2_with fail
            have hD10 : D < w10.heap.size := HST.out.env.lt
            refine (oddN D 2 _ (some ⟨b2, off2, none⟩) lc h N _ HST.out.env.dice HST.out.ll HWN.out (by omega) (by rw [HNL.out]; omega) HNL.out.symm).mono ?_
            intro e w11 he
            obtain ⟨OA, oc, SO, R11, rfl, -, hOl, hOW, hD11, hg11, hORV⟩ := he
            rw [shL_len, HNL.out] at hOl
            have HRR := Lib.hid ((HST.out.rr.mono (Q := fun b => b ≠ D ∧ b < w10.heap.size) (fun b hlt hb => ⟨hb, hlt⟩)).keep (Kept.mv2 hg11))
            have HORV := Lib.hid hORV
            have HG11 := Lib.hid hg11
            have HD11 := Lib.hid hD11
            have hsz11 := hg11.size
            clear hORV hD11 hg11
            go_wp2_with (at_builtin; refine Hid.out ?_)
            refine Lib.hid ?_
            refine app_rows rfl (.tmp 106) (.tmp 107) rfl (base := w10.heap.size) (D := D) (v := .slice OA SO.length oc) (S := SO) (RS := RS) rfl rfl rfl HORV.out HRR.out hD10 (by omega) (by omega) hsz11 ?_
            intro XA xc w12 hX hb12
            have HX := Lib.hid hX
            have hXW : Wide 20 (SO ++ RS) := Wide.cat (hOW.mono (by omega)) HRW.out
            have HXW := Lib.hid hXW
            have hXl : (SO ++ RS).length ≤ 20 := by rw [List.length_append]; omega
            have hg12 := grown_bl HG11.out hb12
            have hST12 := HST.out.mv ((HST.out.env.next HD11.out HG11.out).app hD10 hb12) hg12
            replace HST := Lib.hid hST12
            clear hX hXW hb12 hg12 hST12 HRR HORV HG11 HD11 hOW hOl hsz11 hD10
            generalize SO ++ RS = X at *
            go_wp2_with fail
            go_loopw [110] (fun i wr => ∃ k : Nat, k ≤ X.length ∧ i = .int .i64 k ∧ Below w12.heap.size w12 wr) (fun i _ => X.length - (intOf i).toNat)
            case atStart => exact ⟨0, Nat.zero_le _, rfl, Below.refl _ _⟩
            case round =>
              obtain ⟨k, hk, rfl, hbr⟩ := hrel
              by_cases hkl : k < X.length
              · obtain ⟨bx, ox, BX, cx, rfl, hbx, -, x0, x1, hXI⟩ := (HX.out.below hbr).at_ k hkl
                have hYl := HXW.out k hkl
                have i1 : (0 : Int) ≤ (k : Int) := by omega
                have i2 : (k : Int) < (X.length : Int) := by omega
                have HSTr := Lib.hid (HST.out.below hbr)
                have HBR := Lib.hid hbr
                generalize hS X k = y at *
                generalize vS X k = YL at *
                have HXI := Lib.hid hXI
                clear hXI hbr
                go_wp2_with fail
                refine gen_world fun wa hwa => ?_
                have hba : Below wr.heap.size wr wa := by rw [hwa]; exact bl_alloc _ (below_alloc _ _)
                have HSC : Hid (ShCell wa wr.heap.size y (.slice BX YL.length cx)) := Lib.hid (by rw [hwa]; exact (ShCell.new _ _ rfl).alloc _)
                have HSTa := Lib.hid (HSTr.out.below hba)
                have HLS : Hid (LsAt (· ≠ D) wa (wr.heap.size + 1) [⟨GA, gc, ofN good⟩, ⟨A2, c2, L2⟩]) := Lib.hid (LsAt.two (by rw [hwa, len_ofN]; exact blk2_2 _ _ _) HSTa.out.gd HSTa.out.f2 (by rw [len_ofN]; omega) (by omega))
                have HXIa := Lib.hid (HXI.out.keep (Kept.below hba))
                have HBA := Lib.hid (below_trans HBR.out hba)
                clear hwa hba x0 x1 HSTr HXI hbx
                generalize wr.heap.size + 1 = sl at *
                generalize wr.heap.size = sx at *
                go_loopw [118] (fun i wr => ∃ k2 : Nat, k2 ≤ 2 ∧ i = .int .i64 k2 ∧ Below wa.heap.size wa wr) (fun i _ => 2 - (intOf i).toNat)
                case atStart => exact ⟨0, Nat.zero_le _, rfl, Below.refl _ _⟩
                case round =>
                  obtain ⟨k2, hk2, rfl, hbr⟩ := hrel
                  by_cases hk2l : k2 < 2
                  · obtain ⟨ZA, zc, ZL, z0, hZI, hZl⟩ := (HLS.out.below hbr).at_ k2 hk2l
                    have HZI := Lib.hid hZI
                    have HSTr := Lib.hid (HSTa.out.below hbr)
                    have HSCr := Lib.hid (HSC.out.below hbr)
                    have HXIr := Lib.hid (HXIa.out.keep (Kept.below hbr))
                    have HBQ := Lib.hid hbr
                    have j1 : (0 : Int) ≤ (k2 : Int) := by omega
                    have j2 : (k2 : Int) < 2 := by omega
                    have HE1 := Lib.hid (fun (W : World) (hb : Below wr.heap.size wr W) => split_any p n h p' n' h' y BX ZA YL ZL cx zc W HPN.out ((HSTr.out.env.bases HB.out).keep hb) (HXIr.out.keep (Kept.below hb)).ints (HZI.out.keep (Kept.below hb)).ints HZI.out.ok (by omega) hZl)
                    have HE2 := Lib.hid (fun (W : World) (hb : Below wr.heap.size wr W) => refSplit_any p n h p' n' h' y BX ZA YL ZL cx zc W HPN.out (HXIr.out.keep (Kept.below hb)).ints (HZI.out.keep (Kept.below hb)).ints HZI.out.ok (by omega) hZl)
                    have HSH := Lib.hid (show Short (shL (spL p h p' n' h' y YL ZL)) from spL_short (by omega))
                    have HSL := Lib.hid (show (shL (spL p h p' n' h' y YL ZL)).length ≤ 100000 from by rw [shL_len]; exact Nat.le_trans spL_len (by omega))
                    generalize shL (spL p h p' n' h' y YL ZL) = XL at *
                    generalize spE p h p' n' h' y YL ZL = er at *
                    have p0 := HSTr.out.pp.c0
                    have p1 := HSTr.out.pp.c1
                    have p2 := HSTr.out.pp.c2
                    have q0 := HSTr.out.pq.c0
                    have q1 := HSTr.out.pq.c1
                    have q2 := HSTr.out.pq.c2
                    have s0 := HSCr.out.c0
                    have s1 := HSCr.out.c1
                    clear hZI hbr
                    go_wp2_with fail
                    refine (HE1.out _ (Below.refl _ _)).mono ?_
                    rintro e wb ⟨E1, e1, rfl, hX1, hb1⟩
                    have HX1 := Lib.hid hX1
                    have HSTb := Lib.hid (HSTr.out.below hb1)
                    have HSCb := Lib.hid (HSCr.out.below hb1)
                    have HB1 := Lib.hid hb1
                    clear hX1 hb1 p0 p1 p2 q0 q1 q2 s0 s1 z0
                    have p0 := HSTb.out.pp.c0
                    have p1 := HSTb.out.pp.c1
                    have p2 := HSTb.out.pp.c2
                    have q0 := HSTb.out.pq.c0
                    have q1 := HSTb.out.pq.c1
                    have q2 := HSTb.out.pq.c2
                    have s0 := HSCb.out.c0
                    have s1 := HSCb.out.c1
                    go_wp2_with fail
                    refine (HE2.out _ HB1.out).mono ?_
                    rintro e wd ⟨E2, e2, rfl, hX2, hb2⟩
                    have HX2 := Lib.hid hX2
                    have HX1d := Lib.hid (HX1.out.below hb2)
                    have hbd := below_trans HB1.out hb2
                    have HBD := Lib.hid hbd
                    have her : (er != er) = false := by simp
                    clear hX2 hb2 hbd p0 p1 p2 q0 q1 q2 s0 s1
                    go_wp2_with fail
                    refine ret_below (sameR E1 E2 XL e1 e2 _ _ _ HX1d.out HX2.out HSH.out HSL.out rfl rfl) ?_
                    intro we hbe
                    have HBE := Lib.hid (HBQ.out.trans ((below_trans HBD.out hbe).mono HBQ.out.size))
                    clear hbe
                    go_wp2_with fail
                    go_roundw
                    case rel =>
                      first
                        | exact ⟨k2 + 1, by omega, by go_num, HBE.out⟩
                        | (repeat (apply Exists.intro)
                           refine And.intro ?_ rfl
                           exact ⟨k2 + 1, by omega, by go_num, HBE.out⟩)
                    case measure => simp [intOf]; omega
                  · obtain rfl : k2 = 2 := by omega
                    have HBE := Lib.hid (HBA.out.trans (hbr.mono HBA.out.size))
                    clear hbr
                    go_wp2_with fail
                    go_roundw
                    case rel =>
                      first
                        | exact ⟨k + 1, by omega, by go_num, HBE.out⟩
                        | (repeat (apply Exists.intro)
                           refine And.intro ?_ rfl
                           exact ⟨k + 1, by omega, by go_num, HBE.out⟩)
                    case measure => simp [intOf]; omega
              · obtain rfl : k = X.length := by omega
                obtain ⟨w13, hw13⟩ : ∃ w13 : World, w13 = wr := ⟨_, rfl⟩
                subst hw13
                replace HST := Lib.hid (HST.out.below hbr)
                clear hbr HX HXW
                go_wp2_with fail
                refine (turnZ D _ (some ⟨b2, off2, none⟩) lc h N _ HST.out.env.dice HST.out.ll (HWN.out.short (by omega)) (by rw [HNL.out]; omega) HNL.out.symm).mono ?_
                rintro e w14 ⟨TA, tc, MT, R14, rfl, htp, htl, -, hTS, hD14, hg14⟩
                have HTS := Lib.hid hTS
                have HTW : Hid (Wide 2 (shL MT)) := Lib.hid ((HMD.out.part htp).wide hsl)
                have hMl : MT.length ≤ 7 := by rw [HNL.out] at htl; omega
                replace HST := Lib.hid (HST.out.next hD14 hg14)
                clear htp htl hTS hD14 hg14
                go_wp2_with fail
                have hD14 : D < w14.heap.size := HST.out.env.lt
                have hg00 : w14.grownBy w14 (some D) := grown_of_below (Below.refl _ _)
                go_loopw [24, 25, 153] (fun f g i wr => ∃ (k : Nat) (hs : List Int) (PS : List Shr) (R : List Int), k ≤ MT.length ∧ i = .int .i64 k ∧ HPt wr w14.heap.size f g hs PS ∧ hs.length ≤ k ∧ PS.length ≤ k ∧ Wide 2 PS ∧ Env w wr D R ∧ w14.grownBy wr (some D)) (fun _ _ i _ => MT.length - (intOf i).toNat)
                case atStart => exact ⟨0, [], [], R14, Nat.zero_le _, rfl, HPt.nil _ _, Nat.le_refl _, Nat.le_refl _, fun k hk => absurd hk (by simp), HST.out.env, hg00⟩
                case round =>
                  obtain ⟨k, hs, PS, R, hk, rfl, hH, hhl, hPl, hPW, hEr, hgr⟩ := hrel
                  by_cases hkl : k < MT.length
                  · have HSTr := Lib.hid (HST.out.mv hEr hgr)
                    obtain ⟨b3, o3, B3, c3, rfl, hb3, -, t0, t1, -, hTI⟩ := (HTS.out.keep (Kept.mv hgr)).nat hkl
                    have hVl : (vN MT k).length ≤ 2 := by
                      have h0 := HTW.out k (by rw [shL_len]; exact hkl)
                      rw [vS_shL, len_ofN] at h0; exact h0
                    have i1 : (0 : Int) ≤ (k : Int) := by omega
                    have i2 : (k : Int) < (MT.length : Int) := by omega
                    have hzr : w14.heap.size ≤ wr.heap.size := hgr.size
                    obtain ⟨xh, hxh⟩ : ∃ xh : Int, xh = ((hN MT k : Nat) : Int) := ⟨_, rfl⟩
                    rw [← hxh] at t0
                    clear hxh
                    generalize vN MT k = YV at *
                    have HTI := Lib.hid hTI
                    have HH := Lib.hid hH
                    have HPW := Lib.hid hPW
                    have HEr := Lib.hid hEr
                    have HGr := Lib.hid hgr
                    clear hTI hH hPW hEr hgr
                    have HSP := Lib.hid (fun (W : World) (hb : Below wr.heap.size wr W) => show Calls Tryd.prog 43 #[planV p n h, planV p' n' h', shV xh (.slice B3 YV.length c3), .slice GA good.length gc] W (ShErr (shL (spL p h p' n' h' xh (ofN YV) (ofN good))) (spE p h p' n' h' xh (ofN YV) (ofN good)) W) from by
                      have := refSplit_any p n h p' n' h' xh B3 GA (ofN YV) (ofN good) c3 gc W HPN.out (HTI.out.keep (Kept.below hb)).ints (HSTr.out.gd.keep (Kept.below hb)).ints HSTr.out.gd.ok (by rw [len_ofN]; omega) (by rw [len_ofN]; omega)
                      rw [len_ofN, len_ofN] at this; exact this)
                    have HXW2 := Lib.hid (show Wide 2 (shL (spL p h p' n' h' xh (ofN YV) (ofN good))) from spL_wide (by rw [len_ofN]; exact hVl))
                    have hXl : (spL p h p' n' h' xh (ofN YV) (ofN good)).length ≤ 16 := spL_len
                    generalize spL p h p' n' h' xh (ofN YV) (ofN good) = XN at *
                    generalize spE p h p' n' h' xh (ofN YV) (ofN good) = er at *
                    have p0 := HSTr.out.pp.c0
                    have p1 := HSTr.out.pp.c1
                    have p2 := HSTr.out.pp.c2
                    have q0 := HSTr.out.pq.c0
                    have q1 := HSTr.out.pq.c1
                    have q2 := HSTr.out.pq.c2
                    have lp := HSTr.out.pp.lt
                    have lq := HSTr.out.pq.lt
                    go_wp2_with fail
                    refine gen_calls fun w15 hw15 => ?_
                    have hb15 : Below wr.heap.size wr w15 := by rw [hw15]; exact below_alloc _ _
                    have HSC : Hid (ShCell w15 wr.heap.size xh (.slice B3 YV.length c3)) := Lib.hid (by rw [hw15]; exact ShCell.new _ _ rfl)
                    clear hw15 p0 p1 p2 q0 q1 q2 t0 t1 lp lq hb3
                    refine (HSP.out _ hb15).mono ?_
                    rintro e w16 ⟨XA', xc', rfl, hXS, hb16⟩
                    rw [shL_len]
                    have hb16' := below_trans hb15 hb16
                    have hH16 := HH.out.below hb16'
                    have hg16 := grown_bl HGr.out (hb16'.mono hzr)
                    have hE16 := HEr.out.mv hb16'
                    have hX16 : ShP (fun b => w14.heap.size ≤ b ∧ u24.ownBlock ≠ some b ∧ u25.ownBlock ≠ some b) w16 XA' xc' (shL XN) := hXS.mono fun b _ hb => by
                      have hz15 := hb15.size
                      exact ⟨by omega, fun e => by have := (World.ownsRow.lt HH.out.own b e).2; omega, fun e => by have := (HH.out.glt b e).2; omega⟩
                    have HS16 := Lib.hid (HSC.out.below hb16)
                    have hz16 : w14.heap.size ≤ w16.heap.size := hg16.size
                    have HH16 := Lib.hid hH16
                    have HG16 := Lib.hid hg16
                    have HE16 := Lib.hid hE16
                    have HX16 := Lib.hid hX16
                    clear hXS hb15 hb16 hb16' hH16 hg16 hE16 hX16 HSC HH HGr HEr
                    generalize wr.heap.size = sx at *
                    rcases Nat.eq_zero_or_pos XN.length with h0 | h0
                    · have t0 : ¬ 0 < XN.length := by omega
                      have HZ := Lib.hid h0
                      clear h0
                      go_wp2_with fail
                      go_roundw
                      case rel =>
                        first
                          | exact ⟨k + 1, hs, PS, R, by omega, by go_num, HH16.out, by omega, by omega, HPW.out, HE16.out, HG16.out⟩
                          | (repeat (apply Exists.intro)
                             refine And.intro ?_ rfl
                             exact ⟨k + 1, hs, PS, R, by omega, by go_num, HH16.out, by omega, by omega, HPW.out, HE16.out, HG16.out⟩)
                      case measure => simp [intOf]; omega
                    · have s0 := HS16.out.c0
                      have hs0 := HS16.out.lt
                      go_upto_region 33 with fail
                      have hxl : (valsI hs).length = hs.length := by simp [valsI]
                      have hown0 := HH16.out.own
                      rw [← hxl] at hown0
                      have hxk : (valsI hs).length ≤ 1048576 := by rw [hxl]; omega
                      go_wp2_with (at_builtin; refine Hid.out ?_)
                      refine Lib.hid ?_
                      refine app_val rfl (.tmp 168) (.tmp 171) 22 rfl (base := w14.heap.size) (u := .int .i64 xh) Tryd.underlying22 info_int rfl rfl hown0 rfl rfl hxk (by omega) (by omega) hz16 ?_
                      intro v4 w17 hown4 hg4 hb4 hv4
                      have HH17 := Lib.hid (HPt.push1 (W := w16) (hs' := hs ++ [xh]) HH16.out (by
                        rw [show valsI (hs ++ [xh]) = valsI hs ++ [.int .i64 xh] from by simp [valsI], show (hs ++ [xh]).length = (valsI hs).length + 1 from by simp [valsI]]; exact hown4) hg4 hv4)
                      have HX17 := Lib.hid (fg_sh1 (W := w16) HX16.out hg4 hv4)
                      have HE17 := Lib.hid (HE16.out.app hD14 hb4)
                      have HG17 := Lib.hid (grown_bl HG16.out hb4)
                      clear hown4 hg4 hv4 hb4 hown0 hxl hxk s0 hs0
                      go_wp2_with fail
                      refine (next_nat D _ 20 _ HE17.out.dice (by omega) (by omega)).mono ?_
                      rintro e w18 ⟨k20, rfl, hk20, hD18, hg18⟩
                      have HH18 := Lib.hid (HH17.out.mv hg18 hD14)
                      have HX18 := Lib.hid (HX17.out.keep (w' := w18) ⟨hg18.size, fun b hb hlt => hg18.block b hlt (fun e => by injection e with e; have := hb.1; omega)⟩)
                      have HE18 := Lib.hid (HE17.out.next hD18 hg18)
                      have HG18 := Lib.hid (grown_trans HG17.out hg18)
                      clear hD18 hg18
                      obtain ⟨m, hm, hml⟩ : ∃ m : Nat, (k20 : Int).tmod (XN.length : Int) = (m : Int) ∧ m < XN.length := ⟨k20 % XN.length, by rw [Int.tmod_eq_emod_of_nonneg (by omega), ← Int.natCast_emod], Nat.mod_lt _ h0⟩
                      obtain ⟨j, hj, hjl⟩ : ∃ j : Nat, (m : Int).tdiv 8 = (j : Int) ∧ j < XN.length := ⟨m / 8, by rw [Int.tdiv_eq_ediv_of_nonneg (by omega)]; omega, by omega⟩
                      obtain ⟨xb, xo, EB, ec, rfl, hxb, -, d0, d1, -, hEI⟩ := HX18.out.nat hjl
                      have hYW : (vN XN j).length ≤ 2 := by
                        have h0 := HXW2.out j (by rw [shL_len]; exact hjl)
                        rw [vS_shL, len_ofN] at h0; exact h0
                      obtain ⟨yh, hyh⟩ : ∃ yh : Int, yh = ((hN XN j : Nat) : Int) := ⟨_, rfl⟩
                      rw [← hyh] at d0
                      clear hyh
                      generalize vN XN j = Y at *
                      have j0 : (0 : Int) ≤ (j : Int) := by omega
                      have j1 : (j : Int) < (XN.length : Int) := by omega
                      have hz18 : w14.heap.size ≤ w18.heap.size := HG18.out.size
                      have t3 : ¬ (XN.length : Int) = 0 := by omega
                      have t4 : ((XN.length : Int) == 0) = false := beq_eq_false_iff_ne.2 t3
                      obtain ⟨W, hW⟩ : ∃ W, W = w18.alloc (.cells #[.int .i64 yh, .slice EB Y.length ec] 53) := ⟨_, rfl⟩
                      have hbW : Below w18.heap.size w18 W := by rw [hW]; exact below_alloc _ _
                      have hWk : w14.heap.size ≤ W.heap.size := Nat.le_trans hz18 hbW.size
                      have HHW := Lib.hid (HH18.out.below hbW)
                      obtain ⟨H, e1, e2, e3⟩ := HHW.out.rows.ex
                      have HE2 := Lib.hid e2
                      have HE3 := Lib.hid e3
                      have hHl : H.length ≤ 100000 := by rw [e2]; omega
                      have HEI := Lib.hid ((hEI.mono (Q := fun b => (w14.heap.size ≤ b ∧ v4.ownBlock ≠ some b) ∧ u25.ownBlock ≠ some b) (fun b _ hb => ⟨⟨hb.1, hb.2.1⟩, hb.2.2⟩)).keep (Kept.below hbW))
                      have HBW := Lib.hid (hbW.mono hz18)
                      clear e2 e3 hEI hbW
                      subst hW
                      go_wp2_with (at_builtin; refine app_hv rfl (.tmp 173) (.tmp 183) rfl (base := w14.heap.size) (H := H) (v := u25) (yh, .slice EB Y.length ec) rfl e1 rfl (heap_alloc_new _ _) rfl (by omega) (by omega) ?_; intro v5 w19 hown5 hg5 hb5 hv5)
                      have HH19 := Lib.hid (HPt.push2 HHW.out HE2.out HE3.out yh (ofN Y) HEI.out (by rw [len_ofN]; exact hown5) hg5 hv5)
                      have hb19 := HBW.out.trans hb5
                      have HE19 := Lib.hid (HE18.out.app hD14 hb19)
                      have HG19 := Lib.hid (grown_bl HG18.out hb19)
                      have HPW2 : Hid (Wide 2 (PS ++ [(yh, ofN Y)])) := Lib.hid (HPW.out.cat (fun k hk => by
                        obtain rfl : k = 0 := by simp at hk; omega
                        show (ofN Y).length ≤ 2
                        rw [len_ofN]; exact hYW))
                      clear hown5 hg5 hb5 hv5 e1 hb19
                      go_wp2_with fail
                      go_roundw
                      case rel =>
                        first
                          | exact ⟨k + 1, hs ++ [xh], PS ++ [(yh, ofN Y)], _, by omega, by go_num, HH19.out, by simp; omega, by simp; omega, HPW2.out, HE19.out, HG19.out⟩
                          | (repeat (apply Exists.intro)
                             refine And.intro ?_ rfl
                             exact ⟨k + 1, hs ++ [xh], PS ++ [(yh, ofN Y)], _, by omega, by go_num, HH19.out, by simp; omega, by simp; omega, HPW2.out, HE19.out, HG19.out⟩)
                      case measure => simp [intOf]; omega
                  · obtain rfl : k = MT.length := by omega
                    obtain ⟨w20, hw20⟩ : ∃ w20 : World, w20 = wr := ⟨_, rfl⟩
                    subst hw20
                    obtain ⟨FA, fc, hf, hFI, hFO, hFl⟩ := own_ints hH.own rfl
                    obtain ⟨PA, pc, hg', hPS⟩ := hH.rows.read
                    subst hf hg'
                    have HF : Hid (IntsP (· ≠ D) w20 FA fc hs) := Lib.hid ⟨hFI, hFO, fun b off e => .inr (by have := (hFl b off e).1; show b ≠ D; omega)⟩
                    have HPS : Hid (ShP (· ≠ D) w20 PA pc PS) := Lib.hid (hPS.mono (fun b _ hb => by
                      show b ≠ D
                      rcases hb with hb | hb
                      · omega
                      · have := hb.1; omega))
                    have HPW := Lib.hid hPW
                    have hhl7 : hs.length ≤ 7 := by omega
                    have hPl7 : PS.length ≤ 7 := by omega
                    replace HST := Lib.hid (HST.out.mv hEr hgr)
                    clear hH hFI hFO hFl hPS hPW hEr hgr HTS HTW hD14 hg00
                    go_wp2_with fail
                    refine gen_world fun w21 hw21 => ?_
                    have hb21 : Below w20.heap.size w20 w21 := by rw [hw21]; exact below_alloc _ _
                    have hgl0 : w20.heap.size ≠ D := by have := HST.out.env.lt; omega
                    replace HST := Lib.hid (HST.out.below hb21)
                    have HLS : Hid (LsAt (· ≠ D) w21 w20.heap.size [⟨FA, fc, hs⟩, ⟨A1, c1, L1⟩]) := Lib.hid (LsAt.two (by rw [hw21]; exact heap_alloc_new _ _) (HF.out.keep (Kept.below hb21)) HST.out.f1 (by omega) (by omega))
                    have HPS21 := Lib.hid (HPS.out.below hb21)
                    clear hw21 hb21 HF HPS
                    generalize w20.heap.size = gl at *
                    have hg00 : w21.grownBy w21 (some D) := grown_of_below (Below.refl _ _)
                    go_loopw [190] (fun i wr => ∃ (k : Nat) (R : List Int), k ≤ 2 ∧ i = .int .i64 k ∧ Env w wr D R ∧ w21.grownBy wr (some D)) (fun i _ => 2 - (intOf i).toNat)
                    case atStart => exact ⟨0, _, Nat.zero_le _, rfl, HST.out.env, hg00⟩
                    case round =>
                      obtain ⟨k, R, hk, rfl, hEr, hgr⟩ := hrel
                      have HSTr := Lib.hid (HST.out.mv hEr hgr)
                      by_cases hkl : k < 2
                      · obtain ⟨ZA, zc, ZL, z0, hZI, hZl⟩ := (HLS.out.mv hgr hgl0).atB (M := 12) (fun x hx => by
                          simp only [List.mem_cons, List.not_mem_nil, or_false] at hx
                          rcases hx with rfl | rfl
                          · show hs.length ≤ 12; omega
                          · show L1.length ≤ 12; omega) k hkl
                        have HZI := Lib.hid hZI
                        have HPr := Lib.hid (HPS21.out.mv hgr)
                        have HGr := Lib.hid hgr
                        have i1 : (0 : Int) ≤ (k : Int) := by omega
                        have i2 : (k : Int) < 2 := by omega
                        clear hZI hEr hgr
                        go_wp2_with fail
                        refine (odd_any D 2 _ PA pc PS _ HSTr.out.env.dice HPr.out HPW.out (by omega) (by omega)).mono ?_
                        intro e w22 he
                        obtain ⟨OA2, oc2, SO2, R22, rfl, hOS, hOl, hOW, hD22, hg22, -⟩ := he
                        have HSTs := Lib.hid (HSTr.out.next hD22 hg22)
                        have HPs := Lib.hid (HPr.out.mv hg22)
                        have HZs := Lib.hid (HZI.out.keep (Kept.mv hg22))
                        have HOS := Lib.hid hOS
                        have HOW := Lib.hid hOW
                        have HGs := Lib.hid (grown_trans HGr.out hg22)
                        clear hOS hOW hD22 hg22 z0 HSTr HPr HZI HGr
                        go_wp2_with fail
                        refine gen_world fun w23 hw23 => ?_
                        have hb23 : Below w22.heap.size w22 w23 := by rw [hw23]; exact below_alloc _ _
                        have HSTt := Lib.hid (HSTs.out.below hb23)
                        have HZt := Lib.hid (HZs.out.keep (Kept.below hb23))
                        have HSS : Hid (SsAt (· ≠ D) w23 w22.heap.size [⟨PA, pc, PS⟩, ⟨RA, rc, RS⟩, ⟨OA2, oc2, SO2⟩]) := Lib.hid (SsAt.three (by rw [hw23]; exact heap_alloc_new _ _) rfl rfl rfl ⟨HPs.out.below hb23, by omega, HPW.out.mono (by omega)⟩ ⟨HSTt.out.rr, by omega, HRW.out.mono (by omega)⟩ ⟨HOS.out.below hb23, by omega, HOW.out.mono (by omega)⟩)
                        have HGt := Lib.hid (grown_bl HGs.out (hb23.mono HGs.out.size))
                        clear hw23 hb23 HPs HZs HOS HOW HGs HSTs
                        generalize w22.heap.size = gs at *
                        go_loopw [201] (fun i wr => ∃ k2 : Nat, k2 ≤ 3 ∧ i = .int .i64 k2 ∧ Below w23.heap.size w23 wr) (fun i _ => 3 - (intOf i).toNat)
                        case atStart => exact ⟨0, Nat.zero_le _, rfl, Below.refl _ _⟩
                        case round =>
                          obtain ⟨k2, hk2, rfl, hbr⟩ := hrel
                          by_cases hk2l : k2 < 3
                          · obtain ⟨YA, yc, YS, y0, hYS, hYl, hYW⟩ := (HSS.out.below hbr).at_ k2 hk2l
                            have HYS := Lib.hid hYS
                            have HSTr := Lib.hid (HSTt.out.below hbr)
                            have HZr := Lib.hid (HZt.out.keep (Kept.below hbr))
                            have HBQ := Lib.hid hbr
                            have j1 : (0 : Int) ≤ (k2 : Int) := by omega
                            have j2 : (k2 : Int) < 3 := by omega
                            have HJ1 := Lib.hid (fun (W : World) (hb : Below wr.heap.size wr W) => join_any p n h p' n' h' ZA YA ZL YS zc yc W HPN.out ((HSTr.out.env.bases HB.out).keep hb) (HZr.out.keep (Kept.below hb)).ints (HYS.out.below hb) (fun k hk => by have := hYW k hk; omega) (by omega) (by omega))
                            have HJ2 := Lib.hid (fun (W : World) (hb : Below wr.heap.size wr W) => refJoin_any p n h p' n' h' ZA YA ZL YS zc yc W HPN.out (HZr.out.keep (Kept.below hb)).ints HZr.out.ok (HYS.out.below hb) (fun k hk => by have := hYW k hk; omega) (by omega) (by omega))
                            have hJV : (jnV p n h p' n' h' ZL YS).length ≤ 30 := jnV_le hYW
                            generalize jnV p n h p' n' h' ZL YS = JV at *
                            generalize jnX p n h p' n' h' ZL YS = jx at *
                            generalize jnE p n h p' n' h' ZL YS = je at *
                            have p0 := HSTr.out.pp.c0
                            have p1 := HSTr.out.pp.c1
                            have p2 := HSTr.out.pp.c2
                            have q0 := HSTr.out.pq.c0
                            have q1 := HSTr.out.pq.c1
                            have q2 := HSTr.out.pq.c2
                            clear hYS hYW hbr
                            go_wp2_with fail
                            refine (HJ1.out _ (Below.refl _ _)).mono ?_
                            rintro e wb ⟨E1, e1, rfl, hN1, hS1, -, hb1⟩
                            have HSTb := Lib.hid (HSTr.out.below hb1)
                            have HB1 := Lib.hid hb1
                            have HN1 := Lib.hid (And.intro hN1 hS1)
                            clear hb1 hN1 hS1 p0 p1 p2 q0 q1 q2 y0
                            have p0 := HSTb.out.pp.c0
                            have p1 := HSTb.out.pp.c1
                            have p2 := HSTb.out.pp.c2
                            have q0 := HSTb.out.pq.c0
                            have q1 := HSTb.out.pq.c1
                            have q2 := HSTb.out.pq.c2
                            have lp := HSTb.out.pp.lt
                            have lq := HSTb.out.pq.lt
                            go_wp2_with fail
                            refine gen_calls fun wq hwq => ?_
                            have hbq : Below wb.heap.size wb wq := by rw [hwq]; exact below_alloc _ _
                            have HC1 : Hid (ShCell wq wb.heap.size jx (.slice E1 JV.length e1)) := Lib.hid (by rw [hwq]; exact ShCell.new _ _ rfl)
                            have hb1q := below_trans HB1.out hbq
                            clear hwq p0 p1 p2 q0 q1 q2 lp lq
                            refine (HJ2.out _ hb1q).mono ?_
                            rintro e wd ⟨E2, e2, rfl, hN2, hS2, -, hb2⟩
                            have HC1d := Lib.hid (HC1.out.below hb2)
                            have HN1d := Lib.hid ((HN1.out.1.below hbq).below hb2)
                            have HN2 := Lib.hid (And.intro hN2 hS2)
                            have HBD := Lib.hid (below_trans hb1q hb2)
                            have c0 := HC1d.out.c0
                            have c1 := HC1d.out.c1
                            have lc1 := HC1d.out.lt
                            clear hb1q hbq hb2 hN2 hS2 HC1
                            generalize wb.heap.size = v1 at *
                            go_wp2_with fail
                            refine gen_calls fun we hwe => ?_
                            have hbe : Below wd.heap.size wd we := by rw [hwe]; exact bl_alloc _ (bl_alloc _ (below_alloc _ _))
                            have HL1 : Hid (ShCell we (wd.heap.size + 1) jx (.slice E1 JV.length e1)) := Lib.hid (by rw [hwe]; exact (ShCell.new _ _ (by simp)).alloc _)
                            have HL2 : Hid (ShCell we (wd.heap.size + 1 + 1) jx (.slice E2 JV.length e2)) := Lib.hid (by rw [hwe]; exact ShCell.new _ _ (by simp))
                            have HBF := Lib.hid (below_trans HBD.out hbe)
                            have her : (je != je) = false := by simp
                            have HI1 := Lib.hid (show IntsP (fun _ => True) we E1 e1 (ofN JV) from ⟨(HN1d.out.below hbe).ints, by rw [len_ofN]; exact HN1.out.2.iok, fun _ _ _ => .inr trivial⟩)
                            have HI2 := Lib.hid (show IntsP (fun _ => True) we E2 e2 (ofN JV) from ⟨(HN2.out.1.below hbe).ints, by rw [len_ofN]; exact HN2.out.2.iok, fun _ _ _ => .inr trivial⟩)
                            clear hwe hbe c0 c1 lc1
                            refine ret_below (sameR (some ⟨wd.heap.size + 1, 0, none⟩) (some ⟨wd.heap.size + 1 + 1, 0, none⟩) [(jx, ofN JV)] 1 1 1 1 we (lit_sh (P := fun _ => True) (by rw [len_ofN]; exact HL1.out) trivial HI1.out) (lit_sh (P := fun _ => True) (by rw [len_ofN]; exact HL2.out) trivial HI2.out) (short_one (by rw [len_ofN]; omega)) (by simp) rfl rfl) ?_
                            intro wf hbf
                            have HBE := Lib.hid (HBQ.out.trans ((below_trans HBF.out hbf).mono HBQ.out.size))
                            clear hbf
                            go_wp2_with fail
                            go_roundw
                            case rel =>
                              first
                                | exact ⟨k2 + 1, by omega, by go_num, HBE.out⟩
                                | (repeat (apply Exists.intro)
                                   refine And.intro ?_ rfl
                                   exact ⟨k2 + 1, by omega, by go_num, HBE.out⟩)
                            case measure => simp [intOf]; omega
                          · obtain rfl : k2 = 3 := by omega
                            have HGu := Lib.hid (grown_bl HGt.out (hbr.mono HGt.out.size))
                            have HEu := Lib.hid (HSTt.out.env.mv hbr)
                            clear hbr
                            go_wp2_with fail
                            go_roundw
                            case rel =>
                              first
                                | exact ⟨k + 1, _, by omega, by go_num, HEu.out, HGu.out⟩
                                | (repeat (apply Exists.intro)
                                   refine And.intro ?_ rfl
                                   exact ⟨k + 1, _, by omega, by go_num, HEu.out, HGu.out⟩)
                            case measure => simp [intOf]; omega
                      · obtain rfl : k = 2 := by omega
                        obtain ⟨w24, hw24⟩ : ∃ w24 : World, w24 = wr := ⟨_, rfl⟩
                        subst hw24
                        replace HST := Lib.hid (HST.out.mv hEr hgr)
                        clear hEr hgr hg00 HLS HPS21 HPW HSTr
                        go_wp2_with fail
                        have p1 := HST.out.pp.c1
                        go_region_held3 (fun w' => w'.cell? ⟨px, 1, none⟩ = some (.int .i64 (n : Int))) (first | go_keep)
                          (first
                            | (go_at_call 19; refine (next_nat D _ 2 _ (by exact HST.out.env.dice) (by omega) (by omega)).mono ?_; rintro e w25 ⟨k2, rfl, hk2, hD25, hg25⟩; have hg25' : w24.grownBy w25 (some D) := (by first | exact grown_undrew hg25 | exact hg25); replace HST := Lib.hid (HST.out.next hD25 hg25'); replace p1 := HST.out.pp.c1))
                        all_goals
                          obtain ⟨r, hr⟩ : ∃ r : Nat, (n : Int) - (k2 : Int) = (r : Int) := ⟨n - k2, by omega⟩
                          have hr7 : r ≤ 7 := by omega
                          rw [hr, IntWalk.i64_in (r : Int) (by omega)]
                          clear hr hk2 hD25 hg25 hg25' p1
                          go_wp2_with fail
                          go_loopw [38, 239] (fun o i wr => ∃ t : Nat, t ≤ r ∧ i = .int .i64 t ∧ wr.ownsRow w25.heap.size 22 1 o t (List.replicate t (.slice GA good.length gc)) ∧ Below w25.heap.size w25 wr) (fun _ i _ => r - (intOf i).toNat)
                          case atStart => exact ⟨0, Nat.zero_le _, rfl, World.ownsRow_nil _ _ _ _, Below.refl _ _⟩
                          case round =>
                            obtain ⟨t, ht, rfl, hown, hbr⟩ := hrel
                            have HBR := Lib.hid hbr
                            by_cases htr : t < r
                            · have hti : (t : Int) < (r : Int) := by omega
                              have hzr : w25.heap.size ≤ wr.heap.size := hbr.size
                              have hown' : wr.ownsRow w25.heap.size 22 1 u38 (List.replicate t (Value.slice GA good.length gc)).length (List.replicate t (.slice GA good.length gc)) := by rw [List.length_replicate]; exact hown
                              clear hown hbr
                              go_wp2_with (at_builtin; refine app_val rfl (.tmp 241) (.tmp 243) 59 rfl (base := w25.heap.size) (u := .slice GA good.length gc) Tryd.underlying59 info_ints rfl rfl hown' rfl rfl (by rw [List.length_replicate]; omega) (by omega) (by omega) hzr ?_; intro v4 w26 hown4 hg4 hb4 hv4)
                              have HO4 := Lib.hid (show w26.ownsRow w25.heap.size 22 1 v4 (t + 1) (List.replicate (t + 1) (.slice GA good.length gc)) from by
                                rw [List.length_replicate] at hown4
                                rw [List.replicate_succ']; exact hown4)
                              have HB4 := Lib.hid (HBR.out.trans hb4)
                              clear hown4 hg4 hb4 hv4 hown'
                              go_roundw
                              case rel =>
                                first
                                  | exact ⟨t + 1, by omega, by go_num, HO4.out, HB4.out⟩
                                  | (repeat (apply Exists.intro)
                                     refine And.intro ?_ rfl
                                     exact ⟨t + 1, by omega, by go_num, HO4.out, HB4.out⟩)
                              case measure => simp [intOf]; omega
                            · obtain rfl : t = r := by omega
                              have hD25 : D < w25.heap.size := HST.out.env.lt
                              obtain ⟨LSA, lsc, hv, hLS⟩ := own_reps hown ((HST.out.gd.mono (Q := fun b => b ≠ D ∧ b < w25.heap.size) (fun b hlt hb => ⟨hb, hlt⟩)).keep (Kept.below hbr)) HGO.out hD25
                              subst hv
                              obtain ⟨w26, hw26⟩ : ∃ w26 : World, w26 = wr := ⟨_, rfl⟩
                              subst hw26
                              have HLL := Lib.hid hLS
                              replace HST := Lib.hid (HST.out.below hbr)
                              clear hLS hbr hown HBR hD25
                              go_wp2_with fail
                              refine (turnZ D _ (some ⟨b2, off2, none⟩) lc h N _ HST.out.env.dice HST.out.ll (HWN.out.short (by omega)) (by rw [HNL.out]; omega) HNL.out.symm).mono ?_
                              rintro e w27 ⟨TB, tb, MB, R27, rfl, htp, htl, -, hTS, hD27, hg27⟩
                              have HTS := Lib.hid hTS
                              have HTW : Hid (Wide 2 (shL MB)) := Lib.hid ((HMD.out.part htp).wide hsl)
                              have hMl : MB.length ≤ 7 := by rw [HNL.out] at htl; omega
                              replace HST := Lib.hid (HST.out.next hD27 hg27)
                              replace HLL := Lib.hid (HLL.out.mv hg27)
                              clear htp htl hTS hD27 hg27
                              go_wp2_with fail
                              refine gen_world fun w28 hw28 => ?_
                              have hb28 : Below w27.heap.size w27 w28 := by rw [hw28]; exact below_alloc _ _
                              replace HST := Lib.hid (HST.out.below hb28)
                              replace HLL := Lib.hid (HLL.out.below hb28)
                              have HSS : Hid (SsAt (· ≠ D) w28 w27.heap.size [⟨some ⟨b2, off2, none⟩, lc, shL N⟩, ⟨TB, tb, shL MB⟩, ⟨RA, rc, RS⟩]) := Lib.hid (SsAt.three (by rw [hw28]; exact heap_alloc_new _ _) (by rw [shL_len, HNL.out]) (by rw [shL_len]) rfl ⟨HST.out.ll, by rw [shL_len, HNL.out]; omega, HWN.out.mono (by omega)⟩ ⟨HTS.out.below hb28, by rw [shL_len]; omega, HTW.out.mono (by omega)⟩ ⟨HST.out.rr, by omega, HRW.out.mono (by omega)⟩)
                              clear hw28 hb28 HTS HTW
                              generalize w27.heap.size = gs at *
                              go_loopw [253] (fun i wr => ∃ k : Nat, k ≤ 3 ∧ i = .int .i64 k ∧ Below w28.heap.size w28 wr) (fun i _ => 3 - (intOf i).toNat)
                              case atStart => exact ⟨0, Nat.zero_le _, rfl, Below.refl _ _⟩
                              case round =>
                                obtain ⟨k, hk, rfl, hbr⟩ := hrel
                                have HBR := Lib.hid hbr
                                by_cases hkl : k < 3
                                · obtain ⟨YA, yc, YS, y0, hYS, hYl, hYW⟩ := (HSS.out.below hbr).atB (M := 16) (fun x hx => by
                                    simp only [List.mem_cons, List.not_mem_nil, or_false] at hx
                                    rcases hx with rfl | rfl | rfl
                                    · show (shL N).length ≤ 16; rw [shL_len, HNL.out]; omega
                                    · show (shL MB).length ≤ 16; rw [shL_len]; omega
                                    · show RS.length ≤ 16; omega) k hkl
                                  have HYS := Lib.hid hYS
                                  have HSTr := Lib.hid (HST.out.below hbr)
                                  have HLr := Lib.hid (HLL.out.below hbr)
                                  have j1 : (0 : Int) ≤ (k : Int) := by omega
                                  have j2 : (k : Int) < 3 := by omega
                                  have HM1 := Lib.hid (fun (W : World) (hb : Below wr.heap.size wr W) => move_any p n h p' n' h' YA LSA yc lsc t YS good W HPN.out ((HSTr.out.env.bases HB.out).keep hb) (HYS.out.below hb) (HLr.out.below hb) (fun k hk => by have := hYW k hk; omega) (by omega) hgl HGP.out (by omega))
                                  have HM2 := Lib.hid (fun (W : World) (hb : Below wr.heap.size wr W) => refMove_any p n h p' n' h' YA LSA yc lsc t YS good W HPN.out (HYS.out.below hb) (HLr.out.below hb) (fun k hk => by have := hYW k hk; omega) (by omega) hgl HGP.out (by omega))
                                  obtain ⟨hsh, hsl2⟩ := mvL_short (p' := p') (n' := n') (h' := h') (good := good) (r := t) HPN.out hYW
                                  have HSH := Lib.hid hsh
                                  generalize shL (mvL p n h p' n' h' YS good t) = MX at *
                                  generalize mvE p n h p' n' h' YS good t = me at *
                                  have p0 := HSTr.out.pp.c0
                                  have p1 := HSTr.out.pp.c1
                                  have p2 := HSTr.out.pp.c2
                                  have q0 := HSTr.out.pq.c0
                                  have q1 := HSTr.out.pq.c1
                                  have q2 := HSTr.out.pq.c2
                                  clear hYS hYW hbr hsh
                                  go_wp2_with fail
                                  refine (HM1.out _ (Below.refl _ _)).mono ?_
                                  rintro e wb ⟨E1, e1, rfl, hX1, hb1⟩
                                  have HX1 := Lib.hid hX1
                                  have HSTb := Lib.hid (HSTr.out.below hb1)
                                  have HB1 := Lib.hid hb1
                                  clear hX1 hb1 p0 p1 p2 q0 q1 q2 y0
                                  have p0 := HSTb.out.pp.c0
                                  have p1 := HSTb.out.pp.c1
                                  have p2 := HSTb.out.pp.c2
                                  have q0 := HSTb.out.pq.c0
                                  have q1 := HSTb.out.pq.c1
                                  have q2 := HSTb.out.pq.c2
                                  go_wp2_with fail
                                  refine (HM2.out _ HB1.out).mono ?_
                                  rintro e wd ⟨E2, e2, rfl, hX2, hb2⟩
                                  have HX2 := Lib.hid hX2
                                  have HX1d := Lib.hid (HX1.out.below hb2)
                                  have HBD := Lib.hid (below_trans HB1.out hb2)
                                  have her : (me != me) = false := by simp
                                  clear hX2 hb2 p0 p1 p2 q0 q1 q2
                                  go_wp2_with fail
                                  refine ret_below (sameR E1 E2 MX e1 e2 _ _ _ HX1d.out HX2.out HSH.out hsl2 rfl rfl) ?_
                                  intro we hbe
                                  have HBE := Lib.hid (HBR.out.trans ((below_trans HBD.out hbe).mono HBR.out.size))
                                  clear hbe
                                  go_wp2_with fail
                                  go_roundw
                                  case rel =>
                                    first
                                      | exact ⟨k + 1, by omega, by go_num, HBE.out⟩
                                      | (repeat (apply Exists.intro)
                                         refine And.intro ?_ rfl
                                         exact ⟨k + 1, by omega, by go_num, HBE.out⟩)
                                  case measure => simp [intOf]; omega
                                · obtain rfl : k = 3 := by omega
                                  have hEr := HST.out.env.mv hbr
                                  have HEr := Lib.hid hEr
                                  clear hEr hbr
                                  go_wp2_with fail
                                  refine ret_below (awake9 _ (HEr.out.bases HB.out)) ?_
                                  intro wz hbz
                                  go_wp2_with fail
                                  go_ret
                                  exact RetB.bool rfl (HEr.out.mv hbz).below
      · by_cases h12 : (12 : Int) < (L1.length : Int)
        · have t10 : decide ((12 : Int) < (L1.length : Int)) = true := decide_eq_true h12
          go_enter Tryd.func8, Tryd.ntmps8
          go_wp2_with fail
          refine ret_pure HLt.out ?_
          go_wp2_with fail
          refine ret_below HSM.out ?_
          intro w1 hb1
          go_wp2_with fail
          refine ret_below (awake9 _ (HB.out.keep hb1)) ?_
          intro w2 hb2
          go_wp2_with fail
          go_ret
          exact RetB.bool rfl (below_trans hb1 hb2)
        · have t10 : decide ((12 : Int) < (L1.length : Int)) = false := decide_eq_false h12
          have t20 : decide ((40 : Int) < (L2.length : Int)) = true := decide_eq_true (by omega)
          go_enter Tryd.func8, Tryd.ntmps8
          go_wp2_with fail
          refine ret_pure HLt.out ?_
          go_wp2_with fail
          refine ret_below HSM.out ?_
          intro w1 hb1
          go_wp2_with fail
          refine ret_below (awake9 _ (HB.out.keep hb1)) ?_
          intro w2 hb2
          go_wp2_with fail
          go_ret
          exact RetB.bool rfl (below_trans hb1 hb2)
  · have hL := light_any A0 L0.length c0 w
    rw [decide_eq_false hlight] at hL
    have HLt := Lib.hid hL
    clear hL
    go_enter Tryd.func8, Tryd.ntmps8
    go_wp2_with fail
    refine ret_pure HLt.out ?_
    go_wp2_with fail
    refine ret_below (awake9 _ HB.out) ?_
    intro w1 hb1
    go_wp2_with fail
    go_ret
    exact RetB.bool rfl hb1
end Go.Proofs.YtlhipgejiacklaaDoor
namespace Go.Proofs.YtlhipgejiacklaaDoor
open Go.RowKit

theorem cell_block_lt {w : World} {a : Addr} {v : Value} (h : w.cell? a = some v) : a.block < w.heap.size := by
  rcases Nat.lt_or_ge a.block w.heap.size with hlt | hge
  · exact hlt
  · unfold World.cell? at h; simp [Array.getElem?_eq_none hge] at h
theorem open_row {W : World} {x : Addr} {len cap : Nat} {zs : List Int} (hl : len ≤ cap) (hm : cap ≤ maxLen) (hz : zs.length = cap) (hcell : ∀ i, i < zs.length → W.cell? (x.add i) = some (.int .i64 (zs.getD i 0)))
    (hb : ∀ n ∈ zs, -9223372036854775808 ≤ n ∧ n ≤ 9223372036854775807) :
    ∃ ys : List Int, ys.length = len ∧ ys.length ≤ maxLen ∧ IntsAt W (some x) ys ∧ ∀ n ∈ ys, -9223372036854775808 ≤ n ∧ n ≤ 9223372036854775807 := by
  refine ⟨zs.take len, by simp; omega, by simp; omega, fun k hk => ?_, fun n hn => hb n (List.mem_of_mem_take hn)⟩
  have hk' : k < len := by simpa using Nat.lt_of_lt_of_le hk (List.length_take_le _ _)
  have h0 := hcell 0 (by omega)
  have hk0 := hcell k (by omega)
  obtain ⟨b, off, spot⟩ := x
  have hs : spot = none := by simpa [Addr.add] using World.cell?_spot h0
  subst hs
  have hlt := cell_block_lt hk0
  refine ⟨b, off, rfl, ?_, ?_⟩
  · unfold Addr.add at hlt; split at hlt <;> exact hlt
  · have e : (⟨b, off, none⟩ : Addr).add k = ⟨b, off + k, none⟩ := by
      unfold Addr.add; split
      · rename_i h; subst h; rfl
      · rfl
    rw [← e, hk0, nth_eq hk]
    simp [List.getD_eq_getElem?_getD, show k < zs.length by omega]
end Go.Proofs.YtlhipgejiacklaaDoor
namespace Go.Proofs.YtlhipgejiacklaaDoor
open Go.RowKit

theorem open_rowx {W : World} {x : Addr} {len cap : Nat} {zs : List Int} (hl : len ≤ cap) (hm : cap ≤ maxLen) (hz : zs.length = cap) (hcell : ∀ i, i < zs.length → W.cell? (x.add i) = some (.int .i64 (zs.getD i 0)))
    (hb : ∀ n ∈ zs, -9223372036854775808 ≤ n ∧ n ≤ 9223372036854775807) :
    ∃ ys : List Int, ys.length = len ∧ IOK (some x) cap ys.length ∧ IntsAt W (some x) ys ∧ ∀ n ∈ ys, -9223372036854775808 ≤ n ∧ n ≤ 9223372036854775807 := by
  obtain ⟨ys, h1, h2, h3, h4⟩ := open_row hl hm hz hcell hb
  refine ⟨ys, h1, ⟨by omega, hm, (fun e => by cases e), ?_⟩, h3, h4⟩
  rcases Nat.eq_zero_or_pos ys.length with h0 | h0
  · exact .inl h0
  · obtain ⟨b, off, e, _⟩ := h3 0 h0
    injection e with e
    subst e
    exact .inr fun a e2 => by injection e2 with e2; subst e2; rfl
end Go.Proofs.YtlhipgejiacklaaDoor
namespace Go.Proofs.YtlhipgejiacklaaDoor
open Go.RowKit Go.ChangeShapes Go.WideShapes

theorem add_none (b off j : Nat) : (⟨b, off, none⟩ : Addr).add j = ⟨b, off + j, none⟩ := by
  unfold Addr.add; split
  · rename_i h; subst h; rfl
  · rfl
theorem open_shares {H : Type} {enc : TypeId × Value → H} {w : World} {base : Nat} {held : Bool} {n : Nat} {v : Value} {y : DataW H × List MemPlace} (h : DataW.trod enc Tryd.prog w base (fun _ => true) held n 31 [v] = some y) :
    ∃ (B : Option Addr) (S : List Shr) (c : Nat), v = .slice B S.length c ∧ S.length ≤ maxLen ∧ ShP (fun _ => True) w B c S := by
  rcases Deep.open_slice_pairs Tryd.underlying31 Tryd.underlying53 (by kernel_rfl) rfl rfl (by kernel_rfl) (by kernel_rfl) h with ⟨hcs, _⟩ | ⟨a, len, cap, m, n', V0, V1, D0, D1, P0, P1, hcs, _, hl, hm, hmm, _, hx⟩
  · simp only [List.cons.injEq, and_true] at hcs
    subst hcs
    exact ⟨none, [], 0, rfl, by simp [maxLen], ShP.nil _ _⟩
  · simp only [List.cons.injEq, and_true] at hcs
    subst hcs
    have hlm : len ≤ m := by rw [hmm]; split <;> omega
    have each : ∀ i, i < m → ∃ q : Int × List Int, w.cell? (a.add (i * 2)) = some (.int .i64 q.1) ∧ ∃ B c, w.cell? (a.add (i * 2 + 1)) = some (.slice B q.2.length c) ∧ IntsP (fun _ => True) w B c q.2 := fun i hi => by
      obtain ⟨h1, h2, h3, h4⟩ := hx i hi
      obtain ⟨t, e1, _, _⟩ := DataW.trod_int Tryd.underlying3 h3
      simp only [List.cons.injEq, and_true] at e1
      rcases open_ints Tryd.underlying22 Tryd.underlying3 (by kernel_rfl) h4 with ⟨hcs, _⟩ | ⟨x, l, c, zs, hcs, _, hl', hm', hz, _, hcell, hwz⟩
      · simp only [List.cons.injEq, and_true] at hcs
        exact ⟨(t, []), by rw [h1, e1], none, 0, by rw [h2, hcs]; rfl, IntsAt.nil _ _, IOK.none0, fun b off e => by cases e⟩
      · simp only [List.cons.injEq, and_true] at hcs
        obtain ⟨ys, g1, g2, g3, _⟩ := open_rowx hl' hm' (by simpa using hz) hcell (fun n hn => bounds_i64 (hwz n hn))
        exact ⟨(t, ys), by rw [h1, e1], some x, c, by rw [h2, hcs, g1], g3, g2, fun b off e => .inr trivial⟩
    have hq : ∃ q : Nat → Int × List Int, ∀ i, i < m → w.cell? (a.add (i * 2)) = some (.int .i64 (q i).1) ∧ ∃ B c, w.cell? (a.add (i * 2 + 1)) = some (.slice B (q i).2.length c) ∧ IntsP (fun _ => True) w B c (q i).2 :=
      ⟨fun i => if h : i < m then (each i h).choose else (0, []), fun i hi => by simp only [dif_pos hi]; exact (each i hi).choose_spec⟩
    obtain ⟨q, hq⟩ := hq
    have hlen : ((List.range len).map q).length = len := by simp
    have hspot : 0 < len → a.spot = none := fun h0 => by
      have := World.cell?_spot (hq 0 (by omega)).1
      simpa [Addr.add] using this
    refine ⟨some a, (List.range len).map q, cap, by rw [hlen], by rw [hlen]; omega, fun k hk => ?_, by rw [hlen]; omega, hm, (fun e => by cases e), ?_⟩
    · rw [hlen] at hk
      have hs := hspot (by omega)
      obtain ⟨b, off, spot⟩ := a
      have hs : spot = none := hs
      subst hs
      obtain ⟨h1, B, c, h2, h3⟩ := hq k (by omega)
      rw [add_none] at h1 h2
      have hlt := cell_block_lt h1
      have e1 : hS ((List.range len).map q) k = (q k).1 := by simp [hS, List.getD_eq_getElem?_getD, hk]
      have e2 : vS ((List.range len).map q) k = (q k).2 := by simp [vS, List.getD_eq_getElem?_getD, hk]
      refine ⟨b, off, B, c, rfl, hlt, trivial, ?_, ?_, ?_⟩
      · rw [h1, e1]
      · rw [show off + k * 2 + 1 = off + (k * 2 + 1) by omega, h2, e2]
      · rw [e2]; exact h3
    · rcases Nat.eq_zero_or_pos len with h0 | h0
      · exact .inl (by rw [hlen]; exact h0)
      · exact .inr fun a' e => by injection e with e; subst e; exact hspot h0
end Go.Proofs.YtlhipgejiacklaaDoor
