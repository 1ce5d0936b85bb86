/-
  Gifts: what a holder who lies brings, by the document.
  Refresh: the index of a share with a holder; closures of Apply.
  Refresh: Apply.
  Refresh: Zero.
  Refresh: Checks.
  Refresh: Own.
  Conditions: those that each theorem names.
-/
import Derived.Test.YtjckpammcgeloaaDoorM7
import Derived.Laws.EntriesVeiled
import Derived.Laws.MakeOwn
set_option linter.unusedVariables false
set_option linter.unusedSimpArgs false
namespace Go.Proofs.YtjckpammcgeloaaDoor
open Go.RowKit

set_option maxRecDepth 100000 in
set_option maxHeartbeats 8000000 in
theorem refSpoil_any {P P1 P2 : Nat → Prop} (p : Nat) (n h lh lk lb : Int) (u v x : Value) (G O X : GiftD) (w : World) (hpv : primeV (p : Int) = validI p) (hp : 2 ≤ p) (hp2 : p ≤ 1073741824) (hG : GiftR P w u G) (hO : GiftR P1 w v O) (hX : GiftR P2 w x X) (sG : GSmall G) (sO : GSmall O) (sX : GSmall X) :
    Calls Tryd.prog 28 #[planV p n h, lieV lh lk lb, u, v, x] w (SpoilP (spG p n h lh lk lb G O X) (spB p n h lh lk G) (spE p n h lh lk G) w) := by
  have HCK := Lib.hid (fun (W : World) (_ : Below w.heap.size w W) => refCheck_lie p n h lh lk lb W hpv)
  have HGR := Lib.hid (hG.mono (Q := fun b => b < w.heap.size) (fun b hb _ => hb))
  have HOR := Lib.hid (hO.mono (Q := fun b => b < w.heap.size) (fun b hb _ => hb))
  have HXR := Lib.hid (hX.mono (Q := fun b => b < w.heap.size) (fun b hb _ => hb))
  have SG := Lib.hid sG
  have SO := Lib.hid sO
  have SX := Lib.hid sX
  obtain ⟨A, ca, B, cb, C, cc, rfl, -⟩ := hG
  obtain ⟨A1, ca1, B1, cb1, C1, cc1, rfl, -⟩ := hO
  obtain ⟨A2, ca2, B2, cb2, C2, cc2, rfl, -⟩ := hX
  clear hpv sG sO sX
  by_cases hck : chkE p n h lh lk = 0
  · by_cases hgl : G.h = lh
    · have E1 := Lib.hid (fun h4 => sp_4 (lb := lb) (O := O) (X := X) hck hgl h4)
      have E2 := Lib.hid (fun h4 => sp_ok (lb := lb) (O := O) (X := X) hck hgl h4)
      obtain ⟨-, -, hin⟩ := chk_zero hck
      obtain ⟨hk0, hk5⟩ := inI_of hin
      rw [hck] at HCK
      subst hgl
      obtain ⟨gh, S, T, gkh, M⟩ := G
      obtain ⟨oh, S1, T1, okh, M1⟩ := O
      obtain ⟨xh, S2, T2, xkh, M2⟩ := X
      simp only at *
      clear hck hin
      have hkk : lk = 0 ∨ lk = 1 ∨ lk = 2 ∨ lk = 3 ∨ lk = 4 ∨ lk = 5 := by omega
      rcases hkk with hk0 | hk1 | hk2 | hk3 | hk4 | hk5
      · subst hk0
        have E := Lib.hid (E2.out (by omega))
        rw [E.out.1, E.out.2.1, E.out.2.2]
        have t1 : (gh != gh) = false := by simp
        clear E E1 E2
        go_enter Tryd.func28, Tryd.ntmps28
        go_wp2_with fail
        refine gen_calls fun w1 hw1 => ?_
        have hb1 : Below w.heap.size w w1 := by rw [hw1]; exact bl_alloc _ (bl_alloc _ (bl_alloc _ (bl_alloc _ (bl_alloc _ (below_alloc _ _)))))
        have hP : PlanCell w1 w.heap.size p n h := by rw [hw1]; exact (((((PlanCell.new _ _ _ rfl).alloc _).alloc _).alloc _).alloc _).alloc _
        have hL : LieCell w1 (w.heap.size + 1) gh 0 lb := by rw [hw1]; exact ((((LieCell.new _ _ _ (by simp)).below (below_alloc _ _)).below (below_alloc _ _)).below (below_alloc _ _)).below (below_alloc _ _)
        have hG : GiftCell w1 (w.heap.size + 1 + 1) gh (slV A S.length ca) (slV B T.length cb) gkh (slV C M.length cc) := by rw [hw1]; exact (((GiftCell.new _ _ _ _ _ (by simp)).alloc _).alloc _).alloc _
        have hO : GiftCell w1 (w.heap.size + 1 + 1 + 1) oh (slV A1 S1.length ca1) (slV B1 T1.length cb1) okh (slV C1 M1.length cc1) := by rw [hw1]; exact ((GiftCell.new _ _ _ _ _ (by simp)).alloc _).alloc _
        have hX : GiftCell w1 (w.heap.size + 1 + 1 + 1 + 1) xh (slV A2 S2.length ca2) (slV B2 T2.length cb2) xkh (slV C2 M2.length cc2) := by rw [hw1]; exact (GiftCell.new _ _ _ _ _ (by simp)).alloc _
        have hR : GiftCell w1 (w.heap.size + 1 + 1 + 1 + 1 + 1) 0 (.slice none 0 0) (.slice none 0 0) 0 (.slice none 0 0) := by rw [hw1]; exact GiftCell.new _ _ _ _ _ (by simp)
        have hz1 : w1.heap.size = w.heap.size + 6 := by rw [hw1]; simp
        clear hw1
        refine ret_below (HCK.out _ hb1) fun w2 hb2 => ?_
        have hz2 : w.heap.size + 6 ≤ w2.heap.size := by have := hb2.size; omega
        have HP := Lib.hid (hP.below hb2)
        have HL := Lib.hid (hL.below hb2)
        have HG := Lib.hid (hG.below hb2)
        have HO := Lib.hid (hO.below hb2)
        have HX := Lib.hid (hX.below hb2)
        have HR := Lib.hid (hR.below hb2)
        have HB := Lib.hid (below_trans hb1 hb2)
        clear hP hL hG hO hX hR hb1 hb2 HCK hz1
        have g0 := HG.out.c0
        have g1 := HG.out.c1
        have g2 := HG.out.c2
        have g3 := HG.out.c3
        have g4 := HG.out.c4
        have l0 := HL.out.c0
        go_wp2_with fail
        refine (copyGift_any (P := fun b => b < w.heap.size) _ ⟨gh, S, T, gkh, M⟩ w2 (HGR.out.below HB.out) SG.out).mono ?_
        rintro e w3 ⟨bv, wv, kv, Hb, Hw, rfl, hOw, hb3⟩
        obtain ⟨Ab, cab, hbv⟩ := row_slice hOw.sb
        obtain ⟨Aw, caw, hwv⟩ := row_slice hOw.sw
        obtain ⟨Ak, cak, hkv, -⟩ := own_ints hOw.sk rfl
        simp only at hbv hwv hkv
        subst hbv; subst hwv; subst hkv
        have HOWp := Lib.hid hOw
        have hz3 := hb3.size
        have HL3 := Lib.hid (HL.out.below hb3)
        have HP3 := Lib.hid (HP.out.below hb3)
        have HG3 := Lib.hid (HG.out.below hb3)
        have HO3 := Lib.hid (HO.out.below hb3)
        have HX3 := Lib.hid (HX.out.below hb3)
        have HR3 := Lib.hid (HR.out.below hb3)
        have HBW := Lib.hid (below_trans HB.out hb3)
        clear hOw hb3 g0 g1 g2 g3 g4 l0
        have g0 := HG3.out.c0
        have g1 := HG3.out.c1
        have g2 := HG3.out.c2
        have g3 := HG3.out.c3
        have g4 := HG3.out.c4
        have v0 := HG3.out.frozen 0
        have v1 := HG3.out.frozen 1
        have v2 := HG3.out.frozen 2
        have v3 := HG3.out.frozen 3
        have v4 := HG3.out.frozen 4
        go_upto_region 6 with fail
        refine gen_world fun w4 hw4 => ?_
        have hw4' : w4 = ((((w3.setCell ⟨w.heap.size + 1 + 1, 0, none⟩ (.int .i64 gh)).setCell ⟨w.heap.size + 1 + 1, 1, none⟩ (slV Ab S.length cab)).setCell ⟨w.heap.size + 1 + 1, 2, none⟩ (slV Aw T.length caw)).setCell ⟨w.heap.size + 1 + 1, 3, none⟩ (.int .i64 gkh)).setCell ⟨w.heap.size + 1 + 1, 4, none⟩ (slV Ak M.length cak) := hw4
        have hss := sav_fill w3 (w.heap.size + 1 + 1) gh gkh (slV Ab S.length cab) (slV Aw T.length caw) (slV Ak M.length cak)
        have hoc := HG3.out.fill gh (slV Ab S.length cab) (slV Aw T.length caw) gkh (slV Ak M.length cak)
        rw [← hw4'] at hss hoc
        clear hw4 hw4' g0 g1 g2 g3 g4 v0 v1 v2 v3 v4
        have HG4 := Lib.hid hoc
        have HR4 := Lib.hid (HR3.out.sav hss (fun e => by omega))
        have HO4 := Lib.hid (HO3.out.sav hss (fun e => by omega))
        have HX4 := Lib.hid (HX3.out.sav hss (fun e => by omega))
        have HP4 := Lib.hid (HP3.out.keep (hss.block _ HP3.out.lt (fun e => by omega)))
        have HL4 := Lib.hid (HL3.out.keep (hss.block _ HL3.out.lt (fun e => by omega)))
        have HB4 := Lib.hid (HBW.out.trans (hss.below w.heap.size HBW.out.size (fun x _ e => by omega)))
        have HOW := Lib.hid (HOWp.out.sav hss (fun x hx e => by have := (HOWp.out.blk hx).1; omega))
        have HOR4 := Lib.hid (HOR.out.below HB4.out)
        have HXR4 := Lib.hid (HXR.out.below HB4.out)
        have hz4 : w2.heap.size ≤ w4.heap.size := Nat.le_trans hz3 hss.size
        clear hss hoc HL3 HP3 HG3 HO3 HX3 HR3 HBW HOWp
        have l1 := HL4.out.c1
        have o0 := HG4.out.c0
        have o1 := HG4.out.c1
        have o2 := HG4.out.c2
        have o3 := HG4.out.c3
        have o4 := HG4.out.c4
        have r0 := HR4.out.c0
        have r1 := HR4.out.c1
        have r2 := HR4.out.c2
        have r3 := HR4.out.c3
        have r4 := HR4.out.c4
        have f0 := HR4.out.frozen 0
        have f1 := HR4.out.frozen 1
        have f2 := HR4.out.frozen 2
        have f3 := HR4.out.frozen 3
        have f4 := HR4.out.frozen 4
        have HGF := Lib.hid (show GiftR (fun b => w.heap.size + 6 ≤ b) w4 (giftV gh (slV Ab S.length cab) (slV Aw T.length caw) gkh (slV Ak M.length cak)) (spX p 0 lb ⟨gh, S, T, gkh, M⟩ ⟨oh, S1, T1, okh, M1⟩ ⟨xh, S2, T2, xkh, M2⟩) from HOW.out.read.mono (fun b _ hb => by omega))
        have HFL := Lib.hid (HR4.out.fill gh (slV Ab S.length cab) (slV Aw T.length caw) gkh (slV Ak M.length cak))
        go_wp2_with fail
        refine bodyPost_ret (results_gift3 rfl _ _ (w.heap.size + 1 + 1 + 1 + 1 + 1) rfl HFL.out) rfl ?_
        exact spoil_end _ rfl HB4.out HGF.out _ _ _ _ _
      · subst hk1
        have E := Lib.hid (E2.out (by omega))
        rw [E.out.1, E.out.2.1, E.out.2.2]
        have t1 : (gh != gh) = false := by simp
        clear E E1 E2
        go_enter Tryd.func28, Tryd.ntmps28
        go_wp2_with fail
        refine gen_calls fun w1 hw1 => ?_
        have hb1 : Below w.heap.size w w1 := by rw [hw1]; exact bl_alloc _ (bl_alloc _ (bl_alloc _ (bl_alloc _ (bl_alloc _ (below_alloc _ _)))))
        have hP : PlanCell w1 w.heap.size p n h := by rw [hw1]; exact (((((PlanCell.new _ _ _ rfl).alloc _).alloc _).alloc _).alloc _).alloc _
        have hL : LieCell w1 (w.heap.size + 1) gh 1 lb := by rw [hw1]; exact ((((LieCell.new _ _ _ (by simp)).below (below_alloc _ _)).below (below_alloc _ _)).below (below_alloc _ _)).below (below_alloc _ _)
        have hG : GiftCell w1 (w.heap.size + 1 + 1) gh (slV A S.length ca) (slV B T.length cb) gkh (slV C M.length cc) := by rw [hw1]; exact (((GiftCell.new _ _ _ _ _ (by simp)).alloc _).alloc _).alloc _
        have hO : GiftCell w1 (w.heap.size + 1 + 1 + 1) oh (slV A1 S1.length ca1) (slV B1 T1.length cb1) okh (slV C1 M1.length cc1) := by rw [hw1]; exact ((GiftCell.new _ _ _ _ _ (by simp)).alloc _).alloc _
        have hX : GiftCell w1 (w.heap.size + 1 + 1 + 1 + 1) xh (slV A2 S2.length ca2) (slV B2 T2.length cb2) xkh (slV C2 M2.length cc2) := by rw [hw1]; exact (GiftCell.new _ _ _ _ _ (by simp)).alloc _
        have hR : GiftCell w1 (w.heap.size + 1 + 1 + 1 + 1 + 1) 0 (.slice none 0 0) (.slice none 0 0) 0 (.slice none 0 0) := by rw [hw1]; exact GiftCell.new _ _ _ _ _ (by simp)
        have hz1 : w1.heap.size = w.heap.size + 6 := by rw [hw1]; simp
        clear hw1
        refine ret_below (HCK.out _ hb1) fun w2 hb2 => ?_
        have hz2 : w.heap.size + 6 ≤ w2.heap.size := by have := hb2.size; omega
        have HP := Lib.hid (hP.below hb2)
        have HL := Lib.hid (hL.below hb2)
        have HG := Lib.hid (hG.below hb2)
        have HO := Lib.hid (hO.below hb2)
        have HX := Lib.hid (hX.below hb2)
        have HR := Lib.hid (hR.below hb2)
        have HB := Lib.hid (below_trans hb1 hb2)
        clear hP hL hG hO hX hR hb1 hb2 HCK hz1
        have g0 := HG.out.c0
        have g1 := HG.out.c1
        have g2 := HG.out.c2
        have g3 := HG.out.c3
        have g4 := HG.out.c4
        have l0 := HL.out.c0
        go_wp2_with fail
        refine (copyGift_any (P := fun b => b < w.heap.size) _ ⟨gh, S, T, gkh, M⟩ w2 (HGR.out.below HB.out) SG.out).mono ?_
        rintro e w3 ⟨bv, wv, kv, Hb, Hw, rfl, hOw, hb3⟩
        obtain ⟨Ab, cab, hbv⟩ := row_slice hOw.sb
        obtain ⟨Aw, caw, hwv⟩ := row_slice hOw.sw
        obtain ⟨Ak, cak, hkv, -⟩ := own_ints hOw.sk rfl
        simp only at hbv hwv hkv
        subst hbv; subst hwv; subst hkv
        have HOWp := Lib.hid hOw
        have hz3 := hb3.size
        have HL3 := Lib.hid (HL.out.below hb3)
        have HP3 := Lib.hid (HP.out.below hb3)
        have HG3 := Lib.hid (HG.out.below hb3)
        have HO3 := Lib.hid (HO.out.below hb3)
        have HX3 := Lib.hid (HX.out.below hb3)
        have HR3 := Lib.hid (HR.out.below hb3)
        have HBW := Lib.hid (below_trans HB.out hb3)
        clear hOw hb3 g0 g1 g2 g3 g4 l0
        have g0 := HG3.out.c0
        have g1 := HG3.out.c1
        have g2 := HG3.out.c2
        have g3 := HG3.out.c3
        have g4 := HG3.out.c4
        have v0 := HG3.out.frozen 0
        have v1 := HG3.out.frozen 1
        have v2 := HG3.out.frozen 2
        have v3 := HG3.out.frozen 3
        have v4 := HG3.out.frozen 4
        go_upto_region 6 with fail
        refine gen_world fun w4 hw4 => ?_
        have hw4' : w4 = ((((w3.setCell ⟨w.heap.size + 1 + 1, 0, none⟩ (.int .i64 gh)).setCell ⟨w.heap.size + 1 + 1, 1, none⟩ (slV Ab S.length cab)).setCell ⟨w.heap.size + 1 + 1, 2, none⟩ (slV Aw T.length caw)).setCell ⟨w.heap.size + 1 + 1, 3, none⟩ (.int .i64 gkh)).setCell ⟨w.heap.size + 1 + 1, 4, none⟩ (slV Ak M.length cak) := hw4
        have hss := sav_fill w3 (w.heap.size + 1 + 1) gh gkh (slV Ab S.length cab) (slV Aw T.length caw) (slV Ak M.length cak)
        have hoc := HG3.out.fill gh (slV Ab S.length cab) (slV Aw T.length caw) gkh (slV Ak M.length cak)
        rw [← hw4'] at hss hoc
        clear hw4 hw4' g0 g1 g2 g3 g4 v0 v1 v2 v3 v4
        have HG4 := Lib.hid hoc
        have HR4 := Lib.hid (HR3.out.sav hss (fun e => by omega))
        have HO4 := Lib.hid (HO3.out.sav hss (fun e => by omega))
        have HX4 := Lib.hid (HX3.out.sav hss (fun e => by omega))
        have HP4 := Lib.hid (HP3.out.keep (hss.block _ HP3.out.lt (fun e => by omega)))
        have HL4 := Lib.hid (HL3.out.keep (hss.block _ HL3.out.lt (fun e => by omega)))
        have HB4 := Lib.hid (HBW.out.trans (hss.below w.heap.size HBW.out.size (fun x _ e => by omega)))
        have HOW := Lib.hid (HOWp.out.sav hss (fun x hx e => by have := (HOWp.out.blk hx).1; omega))
        have HOR4 := Lib.hid (HOR.out.below HB4.out)
        have HXR4 := Lib.hid (HXR.out.below HB4.out)
        have hz4 : w2.heap.size ≤ w4.heap.size := Nat.le_trans hz3 hss.size
        clear hss hoc HL3 HP3 HG3 HO3 HX3 HR3 HBW HOWp
        have l1 := HL4.out.c1
        by_cases hn : S.length = 0
        · have HV := Lib.hid (show spX p 1 lb ⟨gh, S, T, gkh, M⟩ ⟨oh, S1, T1, okh, M1⟩ ⟨xh, S2, T2, xkh, M2⟩ = ⟨gh, S, T, gkh, M⟩ from by show valG p lb ⟨gh, S, T, gkh, M⟩ = ⟨gh, S, T, gkh, M⟩; unfold valG; simp only [valB_nil p lb hn])
          have t2 : decide (0 < S.length) = false := decide_eq_false (by omega)
          clear hn
          have o0 := HG4.out.c0
          have o1 := HG4.out.c1
          have o2 := HG4.out.c2
          have o3 := HG4.out.c3
          have o4 := HG4.out.c4
          have r0 := HR4.out.c0
          have r1 := HR4.out.c1
          have r2 := HR4.out.c2
          have r3 := HR4.out.c3
          have r4 := HR4.out.c4
          have f0 := HR4.out.frozen 0
          have f1 := HR4.out.frozen 1
          have f2 := HR4.out.frozen 2
          have f3 := HR4.out.frozen 3
          have f4 := HR4.out.frozen 4
          have HGF := Lib.hid (show GiftR (fun b => w.heap.size + 6 ≤ b) w4 (giftV gh (slV Ab S.length cab) (slV Aw T.length caw) gkh (slV Ak M.length cak)) (spX p 1 lb ⟨gh, S, T, gkh, M⟩ ⟨oh, S1, T1, okh, M1⟩ ⟨xh, S2, T2, xkh, M2⟩) from by rw [HV.out]; exact HOW.out.read.mono (fun b _ hb => by omega))
          have HFL := Lib.hid (HR4.out.fill gh (slV Ab S.length cab) (slV Aw T.length caw) gkh (slV Ak M.length cak))
          go_wp2_with fail
          refine bodyPost_ret (results_gift3 rfl _ _ (w.heap.size + 1 + 1 + 1 + 1 + 1) rfl HFL.out) rfl ?_
          exact spoil_end _ rfl HB4.out HGF.out _ _ _ _ _
        · have hm1 : (1 : Int) ≤ (S.length : Int) := by omega
          have hm2 : (S.length : Int) ≤ 4611686018427387904 := by have := SG.out.bl; have : S.length ≤ 10000 := this; omega
          have hpr := plI_rng hm1 lb
          obtain ⟨k, hk⟩ : ∃ k : Nat, plI lb S.length = (k : Int) := ⟨(plI lb S.length).toNat, by omega⟩
          rw [hk] at hpr
          have hkS : k < S.length := by omega
          have t2 : decide (0 < S.length) = true := decide_eq_true (by omega)
          have HPL := Lib.hid (fun W => mod_pl lb S.length W hm1 hm2)
          rw [hk] at HPL
          have hHl : Hb.length = S.length := HOW.out.sb.len
          have HHL := Lib.hid hHl
          obtain ⟨g, c, e, hg, hbg, hlc, hcm, hcell, -⟩ := HOW.out.sb.out.form (by omega)
          injection e with e1 e2 e3
          subst e1; subst e3
          clear e2
          have q1 := (hcell k (by omega)).2
          have hrow := HOW.out.sb.row k hkS
          have i0 : (0 : Int) ≤ (k : Int) := by omega
          have i1 : (k : Int) < (S.length : Int) := by omega
          have hlk : (vS S k).length ≤ 1048576 := SG.out.b k hkS
          have l2 := HL4.out.c2
          have g1 := HG4.out.c1
          clear hHl hcell
          by_cases h0 : (vS S k).length = 0
          · have HV := Lib.hid (show spX p 1 lb ⟨gh, S, T, gkh, M⟩ ⟨oh, S1, T1, okh, M1⟩ ⟨xh, S2, T2, xkh, M2⟩ = ⟨gh, S, T, gkh, M⟩ from by show valG p lb ⟨gh, S, T, gkh, M⟩ = ⟨gh, S, T, gkh, M⟩; unfold valG; simp only [valB_self hk h0])
            have t3 : decide (0 < (vS S k).length) = false := decide_eq_false (by omega)
            obtain ⟨D, dc, hv, -⟩ := own_ints hrow rfl
            rw [hv] at q1
            generalize (vS S k).length = lk at *
            clear hn hk h0 hrow hv
            go_wp2_with fail
            go_quiet ((go_at_call 46; exact Calls.quiet_of_same (HPL.out _)))
            obtain ⟨w5, hw5⟩ : ∃ w5 : World, w5 = w4.drewN nq := ⟨_, rfl⟩
            have hb5 : Below w4.heap.size w4 w5 := by rw [hw5]; exact below_drewN (Below.refl _ _) _
            rw [← hw5]
            clear hw5
            have q15 := (hb5.cell (p := ⟨g, k * 2 + 1, none⟩) hg).trans q1
            have HG5 := Lib.hid (HG4.out.below hb5)
            have HR5 := Lib.hid (HR4.out.below hb5)
            have HB5 := Lib.hid (below_trans HB4.out hb5)
            have HOW5 := Lib.hid (HOW.out.below hb5)
            clear q1 g1 l2 l1 hb5
            have o0 := HG5.out.c0
            have o1 := HG5.out.c1
            have o2 := HG5.out.c2
            have o3 := HG5.out.c3
            have o4 := HG5.out.c4
            have r0 := HR5.out.c0
            have r1 := HR5.out.c1
            have r2 := HR5.out.c2
            have r3 := HR5.out.c3
            have r4 := HR5.out.c4
            have f0 := HR5.out.frozen 0
            have f1 := HR5.out.frozen 1
            have f2 := HR5.out.frozen 2
            have f3 := HR5.out.frozen 3
            have f4 := HR5.out.frozen 4
            have HGF := Lib.hid (show GiftR (fun b => w.heap.size + 6 ≤ b) w5 (giftV gh (slV (some ⟨g, 0, none⟩) S.length cab) (slV Aw T.length caw) gkh (slV Ak M.length cak)) (spX p 1 lb ⟨gh, S, T, gkh, M⟩ ⟨oh, S1, T1, okh, M1⟩ ⟨xh, S2, T2, xkh, M2⟩) from by rw [HV.out]; exact HOW5.out.read.mono (fun b _ hb => by omega))
            have HFL := Lib.hid (HR5.out.fill gh (slV (some ⟨g, 0, none⟩) S.length cab) (slV Aw T.length caw) gkh (slV Ak M.length cak))
            go_wp2_with fail
            refine bodyPost_ret (results_gift3 rfl _ _ (w.heap.size + 1 + 1 + 1 + 1 + 1) rfl HFL.out) rfl ?_
            exact spoil_end _ rfl HB5.out HGF.out _ _ _ _ _
          · have HV := Lib.hid (show spX p 1 lb ⟨gh, S, T, gkh, M⟩ ⟨oh, S1, T1, okh, M1⟩ ⟨xh, S2, T2, xkh, M2⟩ = ⟨gh, S.set k (hS S k, fstV p (vS S k)), T, gkh, M⟩ from by show valG p lb ⟨gh, S, T, gkh, M⟩ = _; unfold valG; simp only [valB_at hk])
            have hv0 : 0 < (vS S k).length := by omega
            have t3 : decide (0 < (vS S k).length) = true := decide_eq_true hv0
            obtain ⟨vb, dc, hv, hvb, -, -, -, hvc, hvf⟩ := own_blk hrow rfl hv0
            rw [hv] at q1
            have v0 := hvc 0 hv0
            have vf := hvf 0
            have HNE := Lib.hid (show w2.heap.size ≤ vb from by
              have := World.ownsRow.lt hrow vb (by rw [hv]; rfl)
              exact this.1)
            have HSET := Lib.hid (fun W (hb : Below w4.heap.size w4 W) => show OwnG (W.setCell ⟨vb, 0, none⟩ (.int .i64 (shv p 1 (nth (vS S k) 0)))) w2.heap.size (.slice (some ⟨g, 0, none⟩) Hb.length cab) (.slice Aw T.length caw) (.slice Ak M.length cak) (Hb.set k (hS S k, (hvAt Hb k).2)) Hw ⟨gh, S.set k (hS S k, fstV p (vS S k)), T, gkh, M⟩ from by
              have hO3 := HOW.out.below hb
              have hr3 := hO3.sb.row k hkS
              refine (OwnG.val (by rw [HHL.out]; exact hO3) hkS (Sav.set _ _ _ (by rw [hv]; rfl)) ?_).1
              rw [hv] at hr3 ⊢
              exact own_fst hr3 hv0)
            rw [HHL.out] at HSET
            have hx1 := emI_rng (p := p) (by omega) (nth (vS S k) 0)
            have HE := Lib.hid (show faI p (emI p (nth (vS S k) 0)) 1 = shv p 1 (nth (vS S k) 0) from rfl)
            generalize hxx : nth (vS S k) 0 = y at *
            generalize hLL : vS S k = LL at *
            have hwr : IntKind.i64.wrap (emI p y + 1) = emI p y + 1 := IntWalk.i64_in _ (by omega)
            have HWR := Lib.hid hwr
            have p0 := HP4.out.c0
            have lp4 := HP4.out.lt
            clear hn hk h0 hrow hv hvc hvf hxx hLL hwr
            go_wp2_with fail
            go_quiet ((go_at_call 46; exact Calls.quiet_of_same (HPL.out _)))
            obtain ⟨w5, hw5⟩ : ∃ w5 : World, w5 = w4.drewN nq := ⟨_, rfl⟩
            have hb5 : Below w4.heap.size w4 w5 := by rw [hw5]; exact below_drewN (Below.refl _ _) _
            rw [← hw5]
            clear hw5
            have q15 := (hb5.cell (p := ⟨g, k * 2 + 1, none⟩) hg).trans q1
            have v05 := (hb5.cell (p := ⟨vb, 0, none⟩) hvb).trans v0
            have vf5 := (hb5.frozen (p := ⟨vb, 0, none⟩) hvb).trans vf
            have p05 := (hb5.cell (p := ⟨w.heap.size, 0, none⟩) lp4).trans p0
            have HB5 := Lib.hid hb5
            clear q1 g1 l2 l1 hb5 v0 vf p0
            go_wp2_with fail
            have hwr := HWR.out
            refine wp_region_still_tail 18 (by kernel_rfl) (by kernel_rfl) ?_
            simp only [List.take_succ_cons, List.take_zero, List.drop_succ_cons, List.drop_zero]
            repeat still_step
            still_call (modE p y _ (by omega) (by omega))
            repeat still_step
            still_call (modF p (emI p y) 1 _ (by omega) (by omega))
            repeat still_step
            refine wpStill_nil ?_
            rw [HE.out]
            clear hwr
            go_upto_region 24 with fail
            refine gen_world fun w6 hw6 => ?_
            have hw6' : w6 = w5.drew.setCell ⟨vb, 0, none⟩ (.int .i64 (shv p 1 y)) := hw6
            have hss : Sav (fun b => b = vb) w5.drew w6 := by rw [hw6']; exact Sav.set (X := fun b => b = vb) _ ⟨vb, 0, none⟩ _ rfl
            have hx3 := HSET.out w5.drew HB5.out.drew
            rw [← hw6'] at hx3
            have hbd : Below w4.heap.size w4 w5.drew := HB5.out.drew
            have HG6 := Lib.hid ((HG4.out.below hbd).sav hss (fun e => by have := HNE.out; omega))
            have HR6 := Lib.hid ((HR4.out.below hbd).sav hss (fun e => by have := HNE.out; omega))
            have HB6 := Lib.hid ((below_trans HB4.out hbd).trans (hss.below w.heap.size (below_trans HB4.out hbd).size (fun x _ e => by have := HNE.out; omega)))
            have HOW6 := Lib.hid hx3
            clear hw6 hw6' hss hx3 hbd q15 v05 vf5 p05
            have o0 := HG6.out.c0
            have o1 := HG6.out.c1
            have o2 := HG6.out.c2
            have o3 := HG6.out.c3
            have o4 := HG6.out.c4
            have r0 := HR6.out.c0
            have r1 := HR6.out.c1
            have r2 := HR6.out.c2
            have r3 := HR6.out.c3
            have r4 := HR6.out.c4
            have f0 := HR6.out.frozen 0
            have f1 := HR6.out.frozen 1
            have f2 := HR6.out.frozen 2
            have f3 := HR6.out.frozen 3
            have f4 := HR6.out.frozen 4
            have HGF := Lib.hid (show GiftR (fun b => w.heap.size + 6 ≤ b) w6 (giftV gh (slV (some ⟨g, 0, none⟩) S.length cab) (slV Aw T.length caw) gkh (slV Ak M.length cak)) (spX p 1 lb ⟨gh, S, T, gkh, M⟩ ⟨oh, S1, T1, okh, M1⟩ ⟨xh, S2, T2, xkh, M2⟩) from by rw [HV.out]; exact HOW6.out.read.mono (fun b _ hb => by omega))
            have HFL := Lib.hid (HR6.out.fill gh (slV (some ⟨g, 0, none⟩) S.length cab) (slV Aw T.length caw) gkh (slV Ak M.length cak))
            go_wp2_with fail
            refine bodyPost_ret (results_gift3 rfl _ _ (w.heap.size + 1 + 1 + 1 + 1 + 1) rfl HFL.out) rfl ?_
            exact spoil_end _ rfl HB6.out HGF.out _ _ _ _ _
      · subst hk2
        have E := Lib.hid (E2.out (by omega))
        rw [E.out.1, E.out.2.1, E.out.2.2]
        have t1 : (gh != gh) = false := by simp
        clear E E1 E2
        go_enter Tryd.func28, Tryd.ntmps28
        go_wp2_with fail
        refine gen_calls fun w1 hw1 => ?_
        have hb1 : Below w.heap.size w w1 := by rw [hw1]; exact bl_alloc _ (bl_alloc _ (bl_alloc _ (bl_alloc _ (bl_alloc _ (below_alloc _ _)))))
        have hP : PlanCell w1 w.heap.size p n h := by rw [hw1]; exact (((((PlanCell.new _ _ _ rfl).alloc _).alloc _).alloc _).alloc _).alloc _
        have hL : LieCell w1 (w.heap.size + 1) gh 2 lb := by rw [hw1]; exact ((((LieCell.new _ _ _ (by simp)).below (below_alloc _ _)).below (below_alloc _ _)).below (below_alloc _ _)).below (below_alloc _ _)
        have hG : GiftCell w1 (w.heap.size + 1 + 1) gh (slV A S.length ca) (slV B T.length cb) gkh (slV C M.length cc) := by rw [hw1]; exact (((GiftCell.new _ _ _ _ _ (by simp)).alloc _).alloc _).alloc _
        have hO : GiftCell w1 (w.heap.size + 1 + 1 + 1) oh (slV A1 S1.length ca1) (slV B1 T1.length cb1) okh (slV C1 M1.length cc1) := by rw [hw1]; exact ((GiftCell.new _ _ _ _ _ (by simp)).alloc _).alloc _
        have hX : GiftCell w1 (w.heap.size + 1 + 1 + 1 + 1) xh (slV A2 S2.length ca2) (slV B2 T2.length cb2) xkh (slV C2 M2.length cc2) := by rw [hw1]; exact (GiftCell.new _ _ _ _ _ (by simp)).alloc _
        have hR : GiftCell w1 (w.heap.size + 1 + 1 + 1 + 1 + 1) 0 (.slice none 0 0) (.slice none 0 0) 0 (.slice none 0 0) := by rw [hw1]; exact GiftCell.new _ _ _ _ _ (by simp)
        have hz1 : w1.heap.size = w.heap.size + 6 := by rw [hw1]; simp
        clear hw1
        refine ret_below (HCK.out _ hb1) fun w2 hb2 => ?_
        have hz2 : w.heap.size + 6 ≤ w2.heap.size := by have := hb2.size; omega
        have HP := Lib.hid (hP.below hb2)
        have HL := Lib.hid (hL.below hb2)
        have HG := Lib.hid (hG.below hb2)
        have HO := Lib.hid (hO.below hb2)
        have HX := Lib.hid (hX.below hb2)
        have HR := Lib.hid (hR.below hb2)
        have HB := Lib.hid (below_trans hb1 hb2)
        clear hP hL hG hO hX hR hb1 hb2 HCK hz1
        have g0 := HG.out.c0
        have g1 := HG.out.c1
        have g2 := HG.out.c2
        have g3 := HG.out.c3
        have g4 := HG.out.c4
        have l0 := HL.out.c0
        go_wp2_with fail
        refine (copyGift_any (P := fun b => b < w.heap.size) _ ⟨gh, S, T, gkh, M⟩ w2 (HGR.out.below HB.out) SG.out).mono ?_
        rintro e w3 ⟨bv, wv, kv, Hb, Hw, rfl, hOw, hb3⟩
        obtain ⟨Ab, cab, hbv⟩ := row_slice hOw.sb
        obtain ⟨Aw, caw, hwv⟩ := row_slice hOw.sw
        obtain ⟨Ak, cak, hkv, -⟩ := own_ints hOw.sk rfl
        simp only at hbv hwv hkv
        subst hbv; subst hwv; subst hkv
        have HOWp := Lib.hid hOw
        have hz3 := hb3.size
        have HL3 := Lib.hid (HL.out.below hb3)
        have HP3 := Lib.hid (HP.out.below hb3)
        have HG3 := Lib.hid (HG.out.below hb3)
        have HO3 := Lib.hid (HO.out.below hb3)
        have HX3 := Lib.hid (HX.out.below hb3)
        have HR3 := Lib.hid (HR.out.below hb3)
        have HBW := Lib.hid (below_trans HB.out hb3)
        clear hOw hb3 g0 g1 g2 g3 g4 l0
        have g0 := HG3.out.c0
        have g1 := HG3.out.c1
        have g2 := HG3.out.c2
        have g3 := HG3.out.c3
        have g4 := HG3.out.c4
        have v0 := HG3.out.frozen 0
        have v1 := HG3.out.frozen 1
        have v2 := HG3.out.frozen 2
        have v3 := HG3.out.frozen 3
        have v4 := HG3.out.frozen 4
        go_upto_region 6 with fail
        refine gen_world fun w4 hw4 => ?_
        have hw4' : w4 = ((((w3.setCell ⟨w.heap.size + 1 + 1, 0, none⟩ (.int .i64 gh)).setCell ⟨w.heap.size + 1 + 1, 1, none⟩ (slV Ab S.length cab)).setCell ⟨w.heap.size + 1 + 1, 2, none⟩ (slV Aw T.length caw)).setCell ⟨w.heap.size + 1 + 1, 3, none⟩ (.int .i64 gkh)).setCell ⟨w.heap.size + 1 + 1, 4, none⟩ (slV Ak M.length cak) := hw4
        have hss := sav_fill w3 (w.heap.size + 1 + 1) gh gkh (slV Ab S.length cab) (slV Aw T.length caw) (slV Ak M.length cak)
        have hoc := HG3.out.fill gh (slV Ab S.length cab) (slV Aw T.length caw) gkh (slV Ak M.length cak)
        rw [← hw4'] at hss hoc
        clear hw4 hw4' g0 g1 g2 g3 g4 v0 v1 v2 v3 v4
        have HG4 := Lib.hid hoc
        have HR4 := Lib.hid (HR3.out.sav hss (fun e => by omega))
        have HO4 := Lib.hid (HO3.out.sav hss (fun e => by omega))
        have HX4 := Lib.hid (HX3.out.sav hss (fun e => by omega))
        have HP4 := Lib.hid (HP3.out.keep (hss.block _ HP3.out.lt (fun e => by omega)))
        have HL4 := Lib.hid (HL3.out.keep (hss.block _ HL3.out.lt (fun e => by omega)))
        have HB4 := Lib.hid (HBW.out.trans (hss.below w.heap.size HBW.out.size (fun x _ e => by omega)))
        have HOW := Lib.hid (HOWp.out.sav hss (fun x hx e => by have := (HOWp.out.blk hx).1; omega))
        have HOR4 := Lib.hid (HOR.out.below HB4.out)
        have HXR4 := Lib.hid (HXR.out.below HB4.out)
        have hz4 : w2.heap.size ≤ w4.heap.size := Nat.le_trans hz3 hss.size
        clear hss hoc HL3 HP3 HG3 HO3 HX3 HR3 HBW HOWp
        have l1 := HL4.out.c1
        have hm1 : (1 : Int) ≤ (p : Int) - 1 := by omega
        have hm2 : (p : Int) - 1 ≤ 4611686018427387904 := by omega
        have hpr := plI_rng hm1 lb
        have hmr := moreI_rng (p := p) (by omega) lb
        have HCE := Lib.hid (moreI_eq hp lb).symm
        have p0 := HP4.out.c0
        have l2 := HL4.out.c2
        have g1 := HG4.out.c1
        go_wp2_with fail
        refine ret_pure (mod_pl lb ((p : Int) - 1) _ hm1 hm2) ?_
        go_wp2_with fail
        rw [HCE.out]
        have hc2 : moreI p lb ≤ p := by omega
        refine (shift_any p (moreI p lb) w2.heap.size _ Hb S w4 HOW.out.sb SG.out.b (by have := SG.out.bl; exact Nat.le_trans this (by omega)) (by omega) (by omega) ⟨hmr.1, hc2⟩).mono ?_
        rintro e w5 ⟨H1, rfl, hR5, hi5, hs5, -⟩
        have hX5 : ∀ r, r < w2.heap.size → ¬ blkV (slV Ab S.length cab) Hb r := fun r hr hb => by
          have := (HOW.out.sb.blk hb).1
          omega
        have HG5 := Lib.hid (HG4.out.sav hs5 (hX5 _ (by omega)))
        have HR5 := Lib.hid (HR4.out.sav hs5 (hX5 _ (by omega)))
        have HP5 := Lib.hid (HP4.out.keep (hs5.block _ HP4.out.lt (hX5 _ (by omega))))
        have HB5 := Lib.hid (HB4.out.trans (hs5.below w.heap.size HB4.out.size (fun x _ hx => by have := (HOW.out.sb.blk hx).1; omega)))
        have HSW := Lib.hid (HOW.out.sw.sav hs5 (fun x hx hy => HOW.out.bw x hy hx))
        have HSK := Lib.hid (own_sav HOW.out.sk hs5 (fun x hx hy => HOW.out.bk x hy hx))
        have HSB := Lib.hid hR5
        have HI5 := Lib.hid hi5
        have hz5 := hs5.size
        clear hR5 hi5 hs5 hX5 p0 l2 g1 l1
        have p0 := HP5.out.c0
        have g2 := HG5.out.c2
        go_wp2_with fail
        try rw [HCE.out]
        refine (shift_any p (moreI p lb) w2.heap.size _ Hw T w5 HSW.out SG.out.w (by have := SG.out.wl; exact Nat.le_trans this (by omega)) (by omega) (by omega) ⟨hmr.1, hc2⟩).mono ?_
        rintro e w6 ⟨H2, rfl, hR6, hi6, hs6, -⟩
        have hX6 : ∀ r, r < w2.heap.size → ¬ blkV (slV Aw T.length caw) Hw r := fun r hr hb => by
          have := (HSW.out.blk hb).1
          omega
        have HG6 := Lib.hid (HG5.out.sav hs6 (hX6 _ (by omega)))
        have HR6 := Lib.hid (HR5.out.sav hs6 (hX6 _ (by omega)))
        have HP6 := Lib.hid (HP5.out.keep (hs6.block _ HP5.out.lt (hX6 _ (by omega))))
        have HB6 := Lib.hid (HB5.out.trans (hs6.below w.heap.size HB5.out.size (fun x _ hx => by have := (HSW.out.blk hx).1; omega)))
        have HSB6 := Lib.hid (HSB.out.sav hs6 (fun x hx hy => HOW.out.bw x (HI5.out x hx) hy))
        have HSK6 := Lib.hid (own_sav HSK.out hs6 (fun x hx hy => HOW.out.wk x hy hx))
        have HSW6 := Lib.hid hR6
        have HI6 := Lib.hid hi6
        have hz6 := hs6.size
        have lp6 := HP6.out.lt
        clear hR6 hi6 hs6 hX6 p0 g2
        have p0 := HP6.out.c0
        have g3 := HG6.out.c3
        have g4 := HG6.out.c4
        go_wp2_with fail
        try rw [HCE.out]
        refine gen_calls fun w7 hw7 => ?_
        have hw7' : w7 = w6.alloc (.cells #[.int .i64 gkh, slV Ak M.length cak] 35) := hw7
        have hb7 : Below w6.heap.size w6 w7 := by rw [hw7']; exact below_alloc _ _
        have hlit : RowsI w7 w2.heap.size (.slice (some ⟨w6.heap.size, 0, none⟩) 1 1) [(gkh, slV Ak M.length cak)] [(gkh, M)] := by rw [hw7']; exact lit_rows HSK6.out (by omega)
        clear hw7 hw7'
        have HG7 := Lib.hid (HG6.out.below hb7)
        have HR7 := Lib.hid (HR6.out.below hb7)
        have HB7 := Lib.hid (below_trans HB6.out hb7)
        have HSB7 := Lib.hid (HSB6.out.below hb7)
        have HSW7 := Lib.hid (HSW6.out.below hb7)
        have HLT := Lib.hid hlit
        have hz7 := hb7.size
        clear hb7 hlit p0 g3 g4
        refine (shift_any p (moreI p lb) w2.heap.size _ _ [(gkh, M)] w7 HLT.out (short_one' SG.out.k) (by simp) (by omega) (by omega) ⟨hmr.1, hc2⟩).mono ?_
        rintro e w8 ⟨H3, rfl, hR8, hi8, hs8, hv8⟩
        have hin : ∀ x, blkV (.slice (some ⟨w6.heap.size, 0, none⟩) 1 1) [(gkh, slV Ak M.length cak)] x → x = w6.heap.size ∨ (slV Ak M.length cak).ownBlock = some x := fun x hx => by
          rcases hx with hx | ⟨i, hi, hx⟩
          · exact .inl (Option.some.inj (show some w6.heap.size = some x from hx)).symm
          · have : i = 0 := by simp at hi; omega
            subst this; exact .inr hx
        have hX8 : ∀ r, r < w2.heap.size → ¬ blkV (.slice (some ⟨w6.heap.size, 0, none⟩) 1 1) [(gkh, slV Ak M.length cak)] r := fun r hr hb => by
          have := (HLT.out.blk hb).1
          omega
        have hk8 := hR8.row 0 (by simp)
        rw [hv8 0] at hk8
        have hk8' : w8.ownsRow w2.heap.size 3 1 (slV Ak M.length cak) (shvL p (moreI p lb) M).length (valsI (shvL p (moreI p lb) M)) := hk8
        have HG8 := Lib.hid (HG7.out.sav hs8 (hX8 _ (by omega)))
        have HR8 := Lib.hid (HR7.out.sav hs8 (hX8 _ (by omega)))
        have HB8 := Lib.hid (HB7.out.trans (hs8.below w.heap.size HB7.out.size (fun x _ hx => by have := (HLT.out.blk hx).1; omega)))
        have HSB8 := Lib.hid (HSB7.out.sav hs8 (fun x hx hy => by
          rcases hin x hy with hy | hy
          · have := (HSB6.out.blk hx).2; omega
          · exact HOW.out.bk x (HI5.out x hx) hy))
        have HSW8 := Lib.hid (HSW7.out.sav hs8 (fun x hx hy => by
          rcases hin x hy with hy | hy
          · have := (HSW6.out.blk hx).2; omega
          · exact HOW.out.wk x (HI6.out x hx) hy))
        have HSK8 := Lib.hid hk8'
        clear hR8 hi8 hs8 hv8 hin hX8 hk8 hk8'
        have o0 := HG8.out.c0
        have o1 := HG8.out.c1
        have o2 := HG8.out.c2
        have o3 := HG8.out.c3
        have o4 := HG8.out.c4
        have r0 := HR8.out.c0
        have r1 := HR8.out.c1
        have r2 := HR8.out.c2
        have r3 := HR8.out.c3
        have r4 := HR8.out.c4
        have f0 := HR8.out.frozen 0
        have f1 := HR8.out.frozen 1
        have f2 := HR8.out.frozen 2
        have f3 := HR8.out.frozen 3
        have f4 := HR8.out.frozen 4
        have HGF := Lib.hid (show GiftR (fun b => w.heap.size + 6 ≤ b) w8 (giftV gh (slV Ab S.length cab) (slV Aw T.length caw) gkh (slV Ak M.length cak)) (spX p 2 lb ⟨gh, S, T, gkh, M⟩ ⟨oh, S1, T1, okh, M1⟩ ⟨xh, S2, T2, xkh, M2⟩) from gift_parts gh gkh HSB8.out HSW8.out HSK8.out (by omega) (by omega) (by omega))
        have HFL := Lib.hid (HR8.out.fill gh (slV Ab S.length cab) (slV Aw T.length caw) gkh (slV Ak M.length cak))
        go_wp2_with fail
        refine bodyPost_ret (results_gift3 rfl _ _ (w.heap.size + 1 + 1 + 1 + 1 + 1) rfl HFL.out) rfl ?_
        exact spoil_end _ rfl HB8.out HGF.out _ _ _ _ _
      · subst hk3
        have E := Lib.hid (E2.out (by omega))
        rw [E.out.1, E.out.2.1, E.out.2.2]
        have t1 : (gh != gh) = false := by simp
        clear E E1 E2
        go_enter Tryd.func28, Tryd.ntmps28
        go_wp2_with fail
        refine gen_calls fun w1 hw1 => ?_
        have hb1 : Below w.heap.size w w1 := by rw [hw1]; exact bl_alloc _ (bl_alloc _ (bl_alloc _ (bl_alloc _ (bl_alloc _ (below_alloc _ _)))))
        have hP : PlanCell w1 w.heap.size p n h := by rw [hw1]; exact (((((PlanCell.new _ _ _ rfl).alloc _).alloc _).alloc _).alloc _).alloc _
        have hL : LieCell w1 (w.heap.size + 1) gh 3 lb := by rw [hw1]; exact ((((LieCell.new _ _ _ (by simp)).below (below_alloc _ _)).below (below_alloc _ _)).below (below_alloc _ _)).below (below_alloc _ _)
        have hG : GiftCell w1 (w.heap.size + 1 + 1) gh (slV A S.length ca) (slV B T.length cb) gkh (slV C M.length cc) := by rw [hw1]; exact (((GiftCell.new _ _ _ _ _ (by simp)).alloc _).alloc _).alloc _
        have hO : GiftCell w1 (w.heap.size + 1 + 1 + 1) oh (slV A1 S1.length ca1) (slV B1 T1.length cb1) okh (slV C1 M1.length cc1) := by rw [hw1]; exact ((GiftCell.new _ _ _ _ _ (by simp)).alloc _).alloc _
        have hX : GiftCell w1 (w.heap.size + 1 + 1 + 1 + 1) xh (slV A2 S2.length ca2) (slV B2 T2.length cb2) xkh (slV C2 M2.length cc2) := by rw [hw1]; exact (GiftCell.new _ _ _ _ _ (by simp)).alloc _
        have hR : GiftCell w1 (w.heap.size + 1 + 1 + 1 + 1 + 1) 0 (.slice none 0 0) (.slice none 0 0) 0 (.slice none 0 0) := by rw [hw1]; exact GiftCell.new _ _ _ _ _ (by simp)
        have hz1 : w1.heap.size = w.heap.size + 6 := by rw [hw1]; simp
        clear hw1
        refine ret_below (HCK.out _ hb1) fun w2 hb2 => ?_
        have hz2 : w.heap.size + 6 ≤ w2.heap.size := by have := hb2.size; omega
        have HP := Lib.hid (hP.below hb2)
        have HL := Lib.hid (hL.below hb2)
        have HG := Lib.hid (hG.below hb2)
        have HO := Lib.hid (hO.below hb2)
        have HX := Lib.hid (hX.below hb2)
        have HR := Lib.hid (hR.below hb2)
        have HB := Lib.hid (below_trans hb1 hb2)
        clear hP hL hG hO hX hR hb1 hb2 HCK hz1
        have g0 := HG.out.c0
        have g1 := HG.out.c1
        have g2 := HG.out.c2
        have g3 := HG.out.c3
        have g4 := HG.out.c4
        have l0 := HL.out.c0
        go_wp2_with fail
        refine (copyGift_any (P := fun b => b < w.heap.size) _ ⟨gh, S, T, gkh, M⟩ w2 (HGR.out.below HB.out) SG.out).mono ?_
        rintro e w3 ⟨bv, wv, kv, Hb, Hw, rfl, hOw, hb3⟩
        obtain ⟨Ab, cab, hbv⟩ := row_slice hOw.sb
        obtain ⟨Aw, caw, hwv⟩ := row_slice hOw.sw
        obtain ⟨Ak, cak, hkv, -⟩ := own_ints hOw.sk rfl
        simp only at hbv hwv hkv
        subst hbv; subst hwv; subst hkv
        have HOWp := Lib.hid hOw
        have hz3 := hb3.size
        have HL3 := Lib.hid (HL.out.below hb3)
        have HP3 := Lib.hid (HP.out.below hb3)
        have HG3 := Lib.hid (HG.out.below hb3)
        have HO3 := Lib.hid (HO.out.below hb3)
        have HX3 := Lib.hid (HX.out.below hb3)
        have HR3 := Lib.hid (HR.out.below hb3)
        have HBW := Lib.hid (below_trans HB.out hb3)
        clear hOw hb3 g0 g1 g2 g3 g4 l0
        have g0 := HG3.out.c0
        have g1 := HG3.out.c1
        have g2 := HG3.out.c2
        have g3 := HG3.out.c3
        have g4 := HG3.out.c4
        have v0 := HG3.out.frozen 0
        have v1 := HG3.out.frozen 1
        have v2 := HG3.out.frozen 2
        have v3 := HG3.out.frozen 3
        have v4 := HG3.out.frozen 4
        go_upto_region 6 with fail
        refine gen_world fun w4 hw4 => ?_
        have hw4' : w4 = ((((w3.setCell ⟨w.heap.size + 1 + 1, 0, none⟩ (.int .i64 gh)).setCell ⟨w.heap.size + 1 + 1, 1, none⟩ (slV Ab S.length cab)).setCell ⟨w.heap.size + 1 + 1, 2, none⟩ (slV Aw T.length caw)).setCell ⟨w.heap.size + 1 + 1, 3, none⟩ (.int .i64 gkh)).setCell ⟨w.heap.size + 1 + 1, 4, none⟩ (slV Ak M.length cak) := hw4
        have hss := sav_fill w3 (w.heap.size + 1 + 1) gh gkh (slV Ab S.length cab) (slV Aw T.length caw) (slV Ak M.length cak)
        have hoc := HG3.out.fill gh (slV Ab S.length cab) (slV Aw T.length caw) gkh (slV Ak M.length cak)
        rw [← hw4'] at hss hoc
        clear hw4 hw4' g0 g1 g2 g3 g4 v0 v1 v2 v3 v4
        have HG4 := Lib.hid hoc
        have HR4 := Lib.hid (HR3.out.sav hss (fun e => by omega))
        have HO4 := Lib.hid (HO3.out.sav hss (fun e => by omega))
        have HX4 := Lib.hid (HX3.out.sav hss (fun e => by omega))
        have HP4 := Lib.hid (HP3.out.keep (hss.block _ HP3.out.lt (fun e => by omega)))
        have HL4 := Lib.hid (HL3.out.keep (hss.block _ HL3.out.lt (fun e => by omega)))
        have HB4 := Lib.hid (HBW.out.trans (hss.below w.heap.size HBW.out.size (fun x _ e => by omega)))
        have HOW := Lib.hid (HOWp.out.sav hss (fun x hx e => by have := (HOWp.out.blk hx).1; omega))
        have HOR4 := Lib.hid (HOR.out.below HB4.out)
        have HXR4 := Lib.hid (HXR.out.below HB4.out)
        have hz4 : w2.heap.size ≤ w4.heap.size := Nat.le_trans hz3 hss.size
        clear hss hoc HL3 HP3 HG3 HO3 HX3 HR3 HBW HOWp
        have l1 := HL4.out.c1
        have hgx4 := HG4.out.lt
        obtain ⟨qA, qca, qB, qcb, qC, qcc, qe, KA, KB, -⟩ := HOR4.out
        injection qe with qe
        simp at qe
        obtain ⟨⟨rfl, rfl⟩, ⟨rfl, rfl⟩, rfl, rfl⟩ := qe
        have HKA := Lib.hid KA
        have HKB := Lib.hid KB
        clear KA KB
        go_wp2_with fail
        refine wp_region_J2 (OldI w4 (w.heap.size + 1 + 1) (w.heap.size + 1 + 1 + 1) gh gkh (slV Ab S.length cab) (slV Aw T.length caw) (slV Ak M.length cak) A1 ca1 S1 B1 cb1 T1) (by kernel_rfl) (by kernel_rfl) (by kernel_rfl) ?_ ?_ ?_
        case refine_1 => exact fun V => ⟨(Sav.refl _ _).trans (Sav.of_below (Below.refl _ _).drew), fun h => nfC rfl h, fun h => nfC rfl h, fun h => nfC rfl h, fun h => nfC rfl h, fun h => nfC rfl h, fun h => nfC rfl h, fun h => nfC rfl h, fun h => nfC rfl h, fun h => nfC rfl h, fun h => nfC rfl h, HG4.out⟩
        case refine_2 =>
          refine JSteps.cons (fun V Ld a W hLi hpre hR hI K hK => ?_) ?_
          · have e := (hR.old 8 (by kernel_rfl)).trans (show _ = Value.pointer (some ⟨(w.heap.size + 1 + 1 + 1), 0, none⟩) from rfl)
            exact J_fieldAddr rfl _ (.tmp 8) 1 rfl (by rw [e]; exact fa_g1 W (w.heap.size + 1 + 1 + 1)) (hK _ _ { hI with v0 := fun _ => rfl })
          refine JSteps.cons (fun V Ld a W hLi hpre hR hI K hK => ?_) ?_
          · have p0 : Ld 0 = true := hpre 0 (List.mem_of_elem_eq_true (by kernel_rfl))
            have f0 := (hR.ev 0 rfl rfl p0).trans (hI.v0 p0)
            exact J_load rfl _ (.tmp 99) rfl (by rw [f0]; exact ld_gb (HO4.out.sav hI.sv (fun e => by omega))) (hK _ _ { hI with v1 := fun _ => rfl })
          refine JSteps.cons (fun V Ld a W hLi hpre hR hI K hK => ?_) ?_
          · have p1 : Ld 1 = true := hpre 1 (List.mem_of_elem_eq_true (by kernel_rfl))
            have f1 := (hR.ev 1 rfl rfl p1).trans (hI.v1 p1)
            refine J_call rfl _ _ _ rfl enter_refCopy (by simp only [List.map_toArray, List.map_cons, List.map_nil, f1]) (copy_any A1 ca1 S1 W (HKA.out.keep (hI.sv.kept fun b hb e => by omega)) SO.out.b (by have := SO.out.bl; exact Nat.le_trans this (by omega))) ?_
            rintro e w' ⟨v, H2, rfl, hR2, hb2⟩
            exact ⟨_, rfl, hK _ _ (hI.o2 hLi hb2 (ShNw.of_copy hR2 hI.sv.size))⟩
          refine JSteps.cons (fun V Ld a W hLi hpre hR hI K hK => ?_) ?_
          · have e := (hR.old 8 (by kernel_rfl)).trans (show _ = Value.pointer (some ⟨(w.heap.size + 1 + 1 + 1), 0, none⟩) from rfl)
            exact J_fieldAddr rfl _ (.tmp 8) 2 rfl (by rw [e]; exact fa_g2 W (w.heap.size + 1 + 1 + 1)) (hK _ _ { hI with v3 := fun _ => rfl })
          refine JSteps.cons (fun V Ld a W hLi hpre hR hI K hK => ?_) ?_
          · have p3 : Ld 3 = true := hpre 3 (List.mem_of_elem_eq_true (by kernel_rfl))
            have f3 := (hR.ev 3 rfl rfl p3).trans (hI.v3 p3)
            exact J_load rfl _ (.tmp 102) rfl (by rw [f3]; exact ld_gw (HO4.out.sav hI.sv (fun e => by omega))) (hK _ _ { hI with v4 := fun _ => rfl })
          refine JSteps.cons (fun V Ld a W hLi hpre hR hI K hK => ?_) ?_
          · have p4 : Ld 4 = true := hpre 4 (List.mem_of_elem_eq_true (by kernel_rfl))
            have f4 := (hR.ev 4 rfl rfl p4).trans (hI.v4 p4)
            refine J_call rfl _ _ _ rfl enter_refCopy (by simp only [List.map_toArray, List.map_cons, List.map_nil, f4]) (copy_any B1 cb1 T1 W (HKB.out.keep (hI.sv.kept fun b hb e => by omega)) SO.out.w (by have := SO.out.wl; exact Nat.le_trans this (by omega))) ?_
            rintro e w' ⟨v, H2, rfl, hR2, hb2⟩
            exact ⟨_, rfl, hK _ _ (hI.o5 hLi hb2 (ShNw.of_copy hR2 hI.sv.size))⟩
          refine JSteps.cons (fun V Ld a W hLi hpre hR hI K hK => ?_) ?_
          · have e := (hR.old 7 (by kernel_rfl)).trans (show _ = Value.pointer (some ⟨(w.heap.size + 1 + 1), 0, none⟩) from rfl)
            exact J_fieldAddr rfl _ (.tmp 7) 1 rfl (by rw [e]; exact fa_g1 W (w.heap.size + 1 + 1)) (hK _ _ { hI with v6 := fun _ => rfl })
          refine JSteps.cons (fun V Ld a W hLi hpre hR hI K hK => ?_) ?_
          · have p2 : Ld 2 = true := hpre 2 (List.mem_of_elem_eq_true (by kernel_rfl))
            have p6 : Ld 6 = true := hpre 6 (List.mem_of_elem_eq_true (by kernel_rfl))
            have f6 := (hR.ev 6 rfl rfl p6).trans (hI.v6 p6)
            obtain ⟨w', hs, hI'⟩ := hI.o7 p2 hgx4
            exact J_store rfl _ (.tmp 105) (.tmp 101) rfl (by rw [f6, hR.ev 2 rfl rfl p2]; exact hs) (hK _ _ hI')
          refine JSteps.cons (fun V Ld a W hLi hpre hR hI K hK => ?_) ?_
          · have e := (hR.old 7 (by kernel_rfl)).trans (show _ = Value.pointer (some ⟨(w.heap.size + 1 + 1), 0, none⟩) from rfl)
            exact J_fieldAddr rfl _ (.tmp 7) 2 rfl (by rw [e]; exact fa_g2 W (w.heap.size + 1 + 1)) (hK _ _ { hI with v8 := fun _ => rfl })
          refine JSteps.cons (fun V Ld a W hLi hpre hR hI K hK => ?_) trivial
          · have p5 : Ld 5 = true := hpre 5 (List.mem_of_elem_eq_true (by kernel_rfl))
            have p8 : Ld 8 = true := hpre 8 (List.mem_of_elem_eq_true (by kernel_rfl))
            have f8 := (hR.ev 8 rfl rfl p8).trans (hI.v8 p8)
            obtain ⟨w', hs, hI'⟩ := hI.o9 p5 hgx4
            exact J_store rfl _ (.tmp 106) (.tmp 104) rfl (by rw [f8, hR.ev 5 rfl rfl p5]; exact hs) (hK _ _ hI')
        case refine_3 =>
          intro V Ld w9 hLd hI
          obtain ⟨DA, dca, e2, hDA⟩ := hI.v2 (hLd 2 (by decide))
          obtain ⟨DB, dcb, e5, hDB⟩ := hI.v5 (hLd 5 (by decide))
          have hrc := hI.rc
          rw [cond_t (hLd 7 (by decide)), cond_t (hLd 9 (by decide)), e2, e5] at hrc
          have hss := hI.sv
          have HG9 := Lib.hid hrc
          have HR9 := Lib.hid (HR4.out.sav hss (fun e => by omega))
          have HB9 := Lib.hid (HB4.out.trans (hss.below w.heap.size HB4.out.size (fun x _ e => by omega)))
          have HOW9 := Lib.hid (HOW.out.sav hss (fun x hx e => by have := (HOW.out.blk hx).1; omega))
          have HDA := Lib.hid hDA
          have HDB := Lib.hid hDB
          clear hI hLd hrc hss hDA hDB e2 e5 l1
          simp only [finL, putL, Act.put, Nat.reduceAdd]
          generalize V 0 = q0
          generalize V 1 = q1
          generalize V 2 = q2
          generalize V 3 = q3
          generalize V 4 = q4
          generalize V 5 = q5
          generalize V 6 = q6
          generalize V 8 = q8
          clear V
          simp only [List.setIfInBounds_toArray, List.set_cons_succ, List.set_cons_zero]
          have o0 := HG9.out.c0
          have o1 := HG9.out.c1
          have o2 := HG9.out.c2
          have o3 := HG9.out.c3
          have o4 := HG9.out.c4
          have r0 := HR9.out.c0
          have r1 := HR9.out.c1
          have r2 := HR9.out.c2
          have r3 := HR9.out.c3
          have r4 := HR9.out.c4
          have f0 := HR9.out.frozen 0
          have f1 := HR9.out.frozen 1
          have f2 := HR9.out.frozen 2
          have f3 := HR9.out.frozen 3
          have f4 := HR9.out.frozen 4
          have HGF := Lib.hid (show GiftR (fun b => w.heap.size + 6 ≤ b) w9 (giftV gh (slV DA S1.length dca) (slV DB T1.length dcb) gkh (slV Ak M.length cak)) (spX p 3 lb ⟨gh, S, T, gkh, M⟩ ⟨oh, S1, T1, okh, M1⟩ ⟨xh, S2, T2, xkh, M2⟩) from gift_mix gh gkh HDA.out HDB.out HOW9.out.sk (by omega) (by omega))
          have HFL := Lib.hid (HR9.out.fill gh (slV DA S1.length dca) (slV DB T1.length dcb) gkh (slV Ak M.length cak))
          go_wp2_with fail
          refine bodyPost_ret (results_gift3 rfl _ _ (w.heap.size + 1 + 1 + 1 + 1 + 1) rfl HFL.out) rfl ?_
          exact spoil_end _ rfl HB9.out HGF.out _ _ _ _ _
      · subst hk4
        have E := Lib.hid (E1.out rfl)
        rw [E.out.1, E.out.2.1, E.out.2.2]
        have t1 : (gh != gh) = false := by simp
        clear E E1 E2
        go_enter Tryd.func28, Tryd.ntmps28
        go_wp2_with fail
        refine gen_calls fun w1 hw1 => ?_
        have hb1 : Below w.heap.size w w1 := by rw [hw1]; exact bl_alloc _ (bl_alloc _ (bl_alloc _ (bl_alloc _ (bl_alloc _ (below_alloc _ _)))))
        have hP : PlanCell w1 w.heap.size p n h := by rw [hw1]; exact (((((PlanCell.new _ _ _ rfl).alloc _).alloc _).alloc _).alloc _).alloc _
        have hL : LieCell w1 (w.heap.size + 1) gh 4 lb := by rw [hw1]; exact ((((LieCell.new _ _ _ (by simp)).below (below_alloc _ _)).below (below_alloc _ _)).below (below_alloc _ _)).below (below_alloc _ _)
        have hG : GiftCell w1 (w.heap.size + 1 + 1) gh (slV A S.length ca) (slV B T.length cb) gkh (slV C M.length cc) := by rw [hw1]; exact (((GiftCell.new _ _ _ _ _ (by simp)).alloc _).alloc _).alloc _
        have hO : GiftCell w1 (w.heap.size + 1 + 1 + 1) oh (slV A1 S1.length ca1) (slV B1 T1.length cb1) okh (slV C1 M1.length cc1) := by rw [hw1]; exact ((GiftCell.new _ _ _ _ _ (by simp)).alloc _).alloc _
        have hX : GiftCell w1 (w.heap.size + 1 + 1 + 1 + 1) xh (slV A2 S2.length ca2) (slV B2 T2.length cb2) xkh (slV C2 M2.length cc2) := by rw [hw1]; exact (GiftCell.new _ _ _ _ _ (by simp)).alloc _
        have hR : GiftCell w1 (w.heap.size + 1 + 1 + 1 + 1 + 1) 0 (.slice none 0 0) (.slice none 0 0) 0 (.slice none 0 0) := by rw [hw1]; exact GiftCell.new _ _ _ _ _ (by simp)
        have hz1 : w1.heap.size = w.heap.size + 6 := by rw [hw1]; simp
        clear hw1
        refine ret_below (HCK.out _ hb1) fun w2 hb2 => ?_
        have hz2 : w.heap.size + 6 ≤ w2.heap.size := by have := hb2.size; omega
        have HP := Lib.hid (hP.below hb2)
        have HL := Lib.hid (hL.below hb2)
        have HG := Lib.hid (hG.below hb2)
        have HO := Lib.hid (hO.below hb2)
        have HX := Lib.hid (hX.below hb2)
        have HR := Lib.hid (hR.below hb2)
        have HB := Lib.hid (below_trans hb1 hb2)
        clear hP hL hG hO hX hR hb1 hb2 HCK hz1
        have g0 := HG.out.c0
        have g1 := HG.out.c1
        have g2 := HG.out.c2
        have g3 := HG.out.c3
        have g4 := HG.out.c4
        have l0 := HL.out.c0
        go_wp2_with fail
        refine (copyGift_any (P := fun b => b < w.heap.size) _ ⟨gh, S, T, gkh, M⟩ w2 (HGR.out.below HB.out) SG.out).mono ?_
        rintro e w3 ⟨bv, wv, kv, Hb, Hw, rfl, hOw, hb3⟩
        obtain ⟨Ab, cab, hbv⟩ := row_slice hOw.sb
        obtain ⟨Aw, caw, hwv⟩ := row_slice hOw.sw
        obtain ⟨Ak, cak, hkv, -⟩ := own_ints hOw.sk rfl
        simp only at hbv hwv hkv
        subst hbv; subst hwv; subst hkv
        have HOWp := Lib.hid hOw
        have hz3 := hb3.size
        have HL3 := Lib.hid (HL.out.below hb3)
        have HP3 := Lib.hid (HP.out.below hb3)
        have HG3 := Lib.hid (HG.out.below hb3)
        have HO3 := Lib.hid (HO.out.below hb3)
        have HX3 := Lib.hid (HX.out.below hb3)
        have HR3 := Lib.hid (HR.out.below hb3)
        have HBW := Lib.hid (below_trans HB.out hb3)
        clear hOw hb3 g0 g1 g2 g3 g4 l0
        have g0 := HG3.out.c0
        have g1 := HG3.out.c1
        have g2 := HG3.out.c2
        have g3 := HG3.out.c3
        have g4 := HG3.out.c4
        have v0 := HG3.out.frozen 0
        have v1 := HG3.out.frozen 1
        have v2 := HG3.out.frozen 2
        have v3 := HG3.out.frozen 3
        have v4 := HG3.out.frozen 4
        go_upto_region 6 with fail
        refine gen_world fun w4 hw4 => ?_
        have hw4' : w4 = ((((w3.setCell ⟨w.heap.size + 1 + 1, 0, none⟩ (.int .i64 gh)).setCell ⟨w.heap.size + 1 + 1, 1, none⟩ (slV Ab S.length cab)).setCell ⟨w.heap.size + 1 + 1, 2, none⟩ (slV Aw T.length caw)).setCell ⟨w.heap.size + 1 + 1, 3, none⟩ (.int .i64 gkh)).setCell ⟨w.heap.size + 1 + 1, 4, none⟩ (slV Ak M.length cak) := hw4
        have hss := sav_fill w3 (w.heap.size + 1 + 1) gh gkh (slV Ab S.length cab) (slV Aw T.length caw) (slV Ak M.length cak)
        have hoc := HG3.out.fill gh (slV Ab S.length cab) (slV Aw T.length caw) gkh (slV Ak M.length cak)
        rw [← hw4'] at hss hoc
        clear hw4 hw4' g0 g1 g2 g3 g4 v0 v1 v2 v3 v4
        have HG4 := Lib.hid hoc
        have HR4 := Lib.hid (HR3.out.sav hss (fun e => by omega))
        have HO4 := Lib.hid (HO3.out.sav hss (fun e => by omega))
        have HX4 := Lib.hid (HX3.out.sav hss (fun e => by omega))
        have HP4 := Lib.hid (HP3.out.keep (hss.block _ HP3.out.lt (fun e => by omega)))
        have HL4 := Lib.hid (HL3.out.keep (hss.block _ HL3.out.lt (fun e => by omega)))
        have HB4 := Lib.hid (HBW.out.trans (hss.below w.heap.size HBW.out.size (fun x _ e => by omega)))
        have HOW := Lib.hid (HOWp.out.sav hss (fun x hx e => by have := (HOWp.out.blk hx).1; omega))
        have HOR4 := Lib.hid (HOR.out.below HB4.out)
        have HXR4 := Lib.hid (HXR.out.below HB4.out)
        have hz4 : w2.heap.size ≤ w4.heap.size := Nat.le_trans hz3 hss.size
        clear hss hoc HL3 HP3 HG3 HO3 HX3 HR3 HBW HOWp
        have l1 := HL4.out.c1
        have r0 := HR4.out.c0
        have r1 := HR4.out.c1
        have r2 := HR4.out.c2
        have r3 := HR4.out.c3
        have r4 := HR4.out.c4
        have f0 := HR4.out.frozen 0
        have f1 := HR4.out.frozen 1
        have f2 := HR4.out.frozen 2
        have f3 := HR4.out.frozen 3
        have f4 := HR4.out.frozen 4
        go_wp2_with fail
        refine bodyPost_ret (results_gift3 rfl _ _ (w.heap.size + 1 + 1 + 1 + 1 + 1) rfl (HR4.out.fill 0 (.slice none 0 0) (.slice none 0 0) 0 (.slice none 0 0))) rfl ?_
        exact spoil_end _ rfl HB4.out (zero_gift _ _) _ _ _ _ _
      · subst hk5
        have E := Lib.hid (E2.out (by omega))
        rw [E.out.1, E.out.2.1, E.out.2.2]
        have t1 : (gh != gh) = false := by simp
        clear E E1 E2
        go_enter Tryd.func28, Tryd.ntmps28
        go_wp2_with fail
        refine gen_calls fun w1 hw1 => ?_
        have hb1 : Below w.heap.size w w1 := by rw [hw1]; exact bl_alloc _ (bl_alloc _ (bl_alloc _ (bl_alloc _ (bl_alloc _ (below_alloc _ _)))))
        have hP : PlanCell w1 w.heap.size p n h := by rw [hw1]; exact (((((PlanCell.new _ _ _ rfl).alloc _).alloc _).alloc _).alloc _).alloc _
        have hL : LieCell w1 (w.heap.size + 1) gh 5 lb := by rw [hw1]; exact ((((LieCell.new _ _ _ (by simp)).below (below_alloc _ _)).below (below_alloc _ _)).below (below_alloc _ _)).below (below_alloc _ _)
        have hG : GiftCell w1 (w.heap.size + 1 + 1) gh (slV A S.length ca) (slV B T.length cb) gkh (slV C M.length cc) := by rw [hw1]; exact (((GiftCell.new _ _ _ _ _ (by simp)).alloc _).alloc _).alloc _
        have hO : GiftCell w1 (w.heap.size + 1 + 1 + 1) oh (slV A1 S1.length ca1) (slV B1 T1.length cb1) okh (slV C1 M1.length cc1) := by rw [hw1]; exact ((GiftCell.new _ _ _ _ _ (by simp)).alloc _).alloc _
        have hX : GiftCell w1 (w.heap.size + 1 + 1 + 1 + 1) xh (slV A2 S2.length ca2) (slV B2 T2.length cb2) xkh (slV C2 M2.length cc2) := by rw [hw1]; exact (GiftCell.new _ _ _ _ _ (by simp)).alloc _
        have hR : GiftCell w1 (w.heap.size + 1 + 1 + 1 + 1 + 1) 0 (.slice none 0 0) (.slice none 0 0) 0 (.slice none 0 0) := by rw [hw1]; exact GiftCell.new _ _ _ _ _ (by simp)
        have hz1 : w1.heap.size = w.heap.size + 6 := by rw [hw1]; simp
        clear hw1
        refine ret_below (HCK.out _ hb1) fun w2 hb2 => ?_
        have hz2 : w.heap.size + 6 ≤ w2.heap.size := by have := hb2.size; omega
        have HP := Lib.hid (hP.below hb2)
        have HL := Lib.hid (hL.below hb2)
        have HG := Lib.hid (hG.below hb2)
        have HO := Lib.hid (hO.below hb2)
        have HX := Lib.hid (hX.below hb2)
        have HR := Lib.hid (hR.below hb2)
        have HB := Lib.hid (below_trans hb1 hb2)
        clear hP hL hG hO hX hR hb1 hb2 HCK hz1
        have g0 := HG.out.c0
        have g1 := HG.out.c1
        have g2 := HG.out.c2
        have g3 := HG.out.c3
        have g4 := HG.out.c4
        have l0 := HL.out.c0
        go_wp2_with fail
        refine (copyGift_any (P := fun b => b < w.heap.size) _ ⟨gh, S, T, gkh, M⟩ w2 (HGR.out.below HB.out) SG.out).mono ?_
        rintro e w3 ⟨bv, wv, kv, Hb, Hw, rfl, hOw, hb3⟩
        obtain ⟨Ab, cab, hbv⟩ := row_slice hOw.sb
        obtain ⟨Aw, caw, hwv⟩ := row_slice hOw.sw
        obtain ⟨Ak, cak, hkv, -⟩ := own_ints hOw.sk rfl
        simp only at hbv hwv hkv
        subst hbv; subst hwv; subst hkv
        have HOWp := Lib.hid hOw
        have hz3 := hb3.size
        have HL3 := Lib.hid (HL.out.below hb3)
        have HP3 := Lib.hid (HP.out.below hb3)
        have HG3 := Lib.hid (HG.out.below hb3)
        have HO3 := Lib.hid (HO.out.below hb3)
        have HX3 := Lib.hid (HX.out.below hb3)
        have HR3 := Lib.hid (HR.out.below hb3)
        have HBW := Lib.hid (below_trans HB.out hb3)
        clear hOw hb3 g0 g1 g2 g3 g4 l0
        have g0 := HG3.out.c0
        have g1 := HG3.out.c1
        have g2 := HG3.out.c2
        have g3 := HG3.out.c3
        have g4 := HG3.out.c4
        have v0 := HG3.out.frozen 0
        have v1 := HG3.out.frozen 1
        have v2 := HG3.out.frozen 2
        have v3 := HG3.out.frozen 3
        have v4 := HG3.out.frozen 4
        go_upto_region 6 with fail
        refine gen_world fun w4 hw4 => ?_
        have hw4' : w4 = ((((w3.setCell ⟨w.heap.size + 1 + 1, 0, none⟩ (.int .i64 gh)).setCell ⟨w.heap.size + 1 + 1, 1, none⟩ (slV Ab S.length cab)).setCell ⟨w.heap.size + 1 + 1, 2, none⟩ (slV Aw T.length caw)).setCell ⟨w.heap.size + 1 + 1, 3, none⟩ (.int .i64 gkh)).setCell ⟨w.heap.size + 1 + 1, 4, none⟩ (slV Ak M.length cak) := hw4
        have hss := sav_fill w3 (w.heap.size + 1 + 1) gh gkh (slV Ab S.length cab) (slV Aw T.length caw) (slV Ak M.length cak)
        have hoc := HG3.out.fill gh (slV Ab S.length cab) (slV Aw T.length caw) gkh (slV Ak M.length cak)
        rw [← hw4'] at hss hoc
        clear hw4 hw4' g0 g1 g2 g3 g4 v0 v1 v2 v3 v4
        have HG4 := Lib.hid hoc
        have HR4 := Lib.hid (HR3.out.sav hss (fun e => by omega))
        have HO4 := Lib.hid (HO3.out.sav hss (fun e => by omega))
        have HX4 := Lib.hid (HX3.out.sav hss (fun e => by omega))
        have HP4 := Lib.hid (HP3.out.keep (hss.block _ HP3.out.lt (fun e => by omega)))
        have HL4 := Lib.hid (HL3.out.keep (hss.block _ HL3.out.lt (fun e => by omega)))
        have HB4 := Lib.hid (HBW.out.trans (hss.below w.heap.size HBW.out.size (fun x _ e => by omega)))
        have HOW := Lib.hid (HOWp.out.sav hss (fun x hx e => by have := (HOWp.out.blk hx).1; omega))
        have HOR4 := Lib.hid (HOR.out.below HB4.out)
        have HXR4 := Lib.hid (HXR.out.below HB4.out)
        have hz4 : w2.heap.size ≤ w4.heap.size := Nat.le_trans hz3 hss.size
        clear hss hoc HL3 HP3 HG3 HO3 HX3 HR3 HBW HOWp
        have l1 := HL4.out.c1
        have hgx4 := HG4.out.lt
        obtain ⟨qA, qca, qB, qcb, qC, qcc, qe, KA, KB, KC⟩ := HXR4.out
        injection qe with qe
        simp at qe
        obtain ⟨⟨rfl, rfl⟩, ⟨rfl, rfl⟩, rfl, rfl⟩ := qe
        have HKA := Lib.hid KA
        have HKB := Lib.hid KB
        have HKC := Lib.hid (KC.mono (Q := (· ≠ w.heap.size + 1 + 1)) (fun b _ hb => by show b ≠ _; omega))
        clear KA KB KC
        go_wp2_with fail
        refine wp_region_J2 (OthI w4 (w.heap.size + 1 + 1) (w.heap.size + 1 + 1 + 1 + 1) gh gkh (slV Ab S.length cab) (slV Aw T.length caw) (slV Ak M.length cak) A2 ca2 S2 B2 cb2 T2 xkh C2 cc2 M2) (by kernel_rfl) (by kernel_rfl) (by kernel_rfl) ?_ ?_ ?_
        case refine_1 => exact fun V => ⟨(Sav.refl _ _).trans (Sav.of_below (Below.refl _ _).drew), fun h => nfC rfl h, fun h => nfC rfl h, fun h => nfC rfl h, fun h => nfC rfl h, fun h => nfC rfl h, fun h => nfC rfl h, fun h => nfC rfl h, fun h => nfC rfl h, fun h => nfC rfl h, fun h => nfC rfl h, fun h => nfC rfl h, fun h => nfC rfl h, fun h => nfC rfl h, fun h => nfC rfl h, fun h => nfC rfl h, fun h => nfC rfl h, fun h => nfC rfl h, fun h => nfC rfl h, fun h => nfC rfl h, fun h => nfC rfl h, fun h => nfC rfl h, fun h => nfC rfl h, fun h => nfC rfl h, fun h => nfC rfl h, fun _ => HG4.out, fun h => nfC rfl h⟩
        case refine_2 =>
          refine JSteps.cons (fun V Ld a W hLi hpre hR hI K hK => ?_) ?_
          · have e := (hR.old 9 (by kernel_rfl)).trans (show _ = Value.pointer (some ⟨(w.heap.size + 1 + 1 + 1 + 1), 0, none⟩) from rfl)
            exact J_fieldAddr rfl _ (.tmp 9) 1 rfl (by rw [e]; exact fa_g1 W (w.heap.size + 1 + 1 + 1 + 1)) (hK _ _ { hI with v0 := fun _ => rfl })
          refine JSteps.cons (fun V Ld a W hLi hpre hR hI K hK => ?_) ?_
          · have p0 : Ld 0 = true := hpre 0 (List.mem_of_elem_eq_true (by kernel_rfl))
            have f0 := (hR.ev 0 rfl rfl p0).trans (hI.v0 p0)
            exact J_load rfl _ (.tmp 112) rfl (by rw [f0]; exact ld_gb (HX4.out.sav hI.sv (fun e => by omega))) (hK _ _ { hI with v1 := fun _ => rfl })
          refine JSteps.cons (fun V Ld a W hLi hpre hR hI K hK => ?_) ?_
          · have e := (hR.old 7 (by kernel_rfl)).trans (show _ = Value.pointer (some ⟨(w.heap.size + 1 + 1), 0, none⟩) from rfl)
            exact J_fieldAddr rfl _ (.tmp 7) 0 rfl (by rw [e]; exact fa_g0 W (w.heap.size + 1 + 1)) (hK _ _ { hI with v2 := fun _ => rfl })
          refine JSteps.cons (fun V Ld a W hLi hpre hR hI K hK => ?_) ?_
          · have p2 : Ld 2 = true := hpre 2 (List.mem_of_elem_eq_true (by kernel_rfl))
            have f2 := (hR.ev 2 rfl rfl p2).trans (hI.v2 p2)
            obtain ⟨k2, u2, hcl⟩ := hI.cell
            exact J_load rfl _ (.tmp 114) rfl (by rw [f2]; exact ld_gh hcl) (hK _ _ { hI with v3 := fun _ => rfl })
          refine JSteps.cons (fun V Ld a W hLi hpre hR hI K hK => ?_) ?_
          · have p1 : Ld 1 = true := hpre 1 (List.mem_of_elem_eq_true (by kernel_rfl))
            have p3 : Ld 3 = true := hpre 3 (List.mem_of_elem_eq_true (by kernel_rfl))
            have f1 := (hR.ev 1 rfl rfl p1).trans (hI.v1 p1)
            have f3 := (hR.ev 3 rfl rfl p3).trans (hI.v3 p3)
            refine J_call rfl _ _ _ rfl enter_named (by simp only [List.map_toArray, List.map_cons, List.map_nil, f1, f3]) (named_any gh A2 ca2 S2 W (HKA.out.keep (hI.sv.kept fun b hb e => by omega)) SX.out.b (by have := SX.out.bl; exact Nat.le_trans this (by omega))) ?_
            rintro e w' ⟨v, H2, rfl, hR2, hb2⟩
            exact ⟨_, rfl, hK _ _ (hI.o4 hLi hb2 (ShNw.of_copy hR2 hI.sv.size))⟩
          refine JSteps.cons (fun V Ld a W hLi hpre hR hI K hK => ?_) ?_
          · have e := (hR.old 9 (by kernel_rfl)).trans (show _ = Value.pointer (some ⟨(w.heap.size + 1 + 1 + 1 + 1), 0, none⟩) from rfl)
            exact J_fieldAddr rfl _ (.tmp 9) 2 rfl (by rw [e]; exact fa_g2 W (w.heap.size + 1 + 1 + 1 + 1)) (hK _ _ { hI with v5 := fun _ => rfl })
          refine JSteps.cons (fun V Ld a W hLi hpre hR hI K hK => ?_) ?_
          · have p5 : Ld 5 = true := hpre 5 (List.mem_of_elem_eq_true (by kernel_rfl))
            have f5 := (hR.ev 5 rfl rfl p5).trans (hI.v5 p5)
            exact J_load rfl _ (.tmp 117) rfl (by rw [f5]; exact ld_gw (HX4.out.sav hI.sv (fun e => by omega))) (hK _ _ { hI with v6 := fun _ => rfl })
          refine JSteps.cons (fun V Ld a W hLi hpre hR hI K hK => ?_) ?_
          · have e := (hR.old 7 (by kernel_rfl)).trans (show _ = Value.pointer (some ⟨(w.heap.size + 1 + 1), 0, none⟩) from rfl)
            exact J_fieldAddr rfl _ (.tmp 7) 0 rfl (by rw [e]; exact fa_g0 W (w.heap.size + 1 + 1)) (hK _ _ { hI with v7 := fun _ => rfl })
          refine JSteps.cons (fun V Ld a W hLi hpre hR hI K hK => ?_) ?_
          · have p7 : Ld 7 = true := hpre 7 (List.mem_of_elem_eq_true (by kernel_rfl))
            have f7 := (hR.ev 7 rfl rfl p7).trans (hI.v7 p7)
            obtain ⟨k2, u2, hcl⟩ := hI.cell
            exact J_load rfl _ (.tmp 119) rfl (by rw [f7]; exact ld_gh hcl) (hK _ _ { hI with v8 := fun _ => rfl })
          refine JSteps.cons (fun V Ld a W hLi hpre hR hI K hK => ?_) ?_
          · have p6 : Ld 6 = true := hpre 6 (List.mem_of_elem_eq_true (by kernel_rfl))
            have p8 : Ld 8 = true := hpre 8 (List.mem_of_elem_eq_true (by kernel_rfl))
            have f6 := (hR.ev 6 rfl rfl p6).trans (hI.v6 p6)
            have f8 := (hR.ev 8 rfl rfl p8).trans (hI.v8 p8)
            refine J_call rfl _ _ _ rfl enter_named (by simp only [List.map_toArray, List.map_cons, List.map_nil, f6, f8]) (named_any gh B2 cb2 T2 W (HKB.out.keep (hI.sv.kept fun b hb e => by omega)) SX.out.w (by have := SX.out.wl; exact Nat.le_trans this (by omega))) ?_
            rintro e w' ⟨v, H2, rfl, hR2, hb2⟩
            exact ⟨_, rfl, hK _ _ (hI.o9 hLi hb2 (ShNw.of_copy hR2 hI.sv.size))⟩
          refine JSteps.cons (fun V Ld a W hLi hpre hR hI K hK => ?_) ?_
          · have e := (hR.old 9 (by kernel_rfl)).trans (show _ = Value.pointer (some ⟨(w.heap.size + 1 + 1 + 1 + 1), 0, none⟩) from rfl)
            exact J_fieldAddr rfl _ (.tmp 9) 3 rfl (by rw [e]; exact fa_g3 W (w.heap.size + 1 + 1 + 1 + 1)) (hK _ _ { hI with v10 := fun _ => rfl })
          refine JSteps.cons (fun V Ld a W hLi hpre hR hI K hK => ?_) ?_
          · have p10 : Ld 10 = true := hpre 10 (List.mem_of_elem_eq_true (by kernel_rfl))
            have f10 := (hR.ev 10 rfl rfl p10).trans (hI.v10 p10)
            exact J_load rfl _ (.tmp 122) rfl (by rw [f10]; exact ld_gk (HX4.out.sav hI.sv (fun e => by omega))) (hK _ _ { hI with v11 := fun _ => rfl })
          refine JSteps.cons (fun V Ld a W hLi hpre hR hI K hK => ?_) ?_
          · have p11 : Ld 11 = true := hpre 11 (List.mem_of_elem_eq_true (by kernel_rfl))
            have f11 := (hR.ev 11 rfl rfl p11).trans (hI.v11 p11)
            exact J_buildSlice rfl _ 1 _ rfl (by simp only [List.map_toArray, List.map_cons, List.map_nil, f11]; exact bs_share W xkh C2 M2.length cc2) (hK _ _ { hI.move (below_alloc W _) with v12 := fun _ => ⟨_, rfl, lit_one (heap_alloc_new _ _) (by have := hI.sv.size; show ¬ _; omega) ((HKC.out.keep (hI.sv.kept fun b hb => hb)).keep (Kept.below (below_alloc _ _)))⟩ })
          refine JSteps.cons (fun V Ld a W hLi hpre hR hI K hK => ?_) ?_
          · have e := (hR.old 7 (by kernel_rfl)).trans (show _ = Value.pointer (some ⟨(w.heap.size + 1 + 1), 0, none⟩) from rfl)
            exact J_fieldAddr rfl _ (.tmp 7) 0 rfl (by rw [e]; exact fa_g0 W (w.heap.size + 1 + 1)) (hK _ _ { hI with v13 := fun _ => rfl })
          refine JSteps.cons (fun V Ld a W hLi hpre hR hI K hK => ?_) ?_
          · have p13 : Ld 13 = true := hpre 13 (List.mem_of_elem_eq_true (by kernel_rfl))
            have f13 := (hR.ev 13 rfl rfl p13).trans (hI.v13 p13)
            obtain ⟨k2, u2, hcl⟩ := hI.cell
            exact J_load rfl _ (.tmp 125) rfl (by rw [f13]; exact ld_gh hcl) (hK _ _ { hI with v14 := fun _ => rfl })
          refine JSteps.cons (fun V Ld a W hLi hpre hR hI K hK => ?_) ?_
          · have p12 : Ld 12 = true := hpre 12 (List.mem_of_elem_eq_true (by kernel_rfl))
            have p14 : Ld 14 = true := hpre 14 (List.mem_of_elem_eq_true (by kernel_rfl))
            have f14 := (hR.ev 14 rfl rfl p14).trans (hI.v14 p14)
            obtain ⟨lg, e12, hlit⟩ := hI.v12 p12
            have f12 := (hR.ev 12 rfl rfl p12).trans e12
            refine J_call rfl _ _ _ rfl enter_named (by simp only [List.map_toArray, List.map_cons, List.map_nil, f12, f14]; rfl) (named_any gh (some ⟨lg, 0, none⟩) 1 [(xkh, M2)] W hlit (short_one' SX.out.k) (by simp)) ?_
            rintro e w' ⟨v, H2, rfl, hR2, hb2⟩
            exact ⟨_, rfl, hK _ _ { hI.move hb2 with v15 := fun _ => ⟨H2, hR2.lower hI.sv.size⟩, v16 := fun e => nfC hLi (hI.v16 e).1 }⟩
          refine JSteps.cons (fun V Ld a W hLi hpre hR hI K hK => ?_) ?_
          · have p15 : Ld 15 = true := hpre 15 (List.mem_of_elem_eq_true (by kernel_rfl))
            obtain ⟨Hk, hrk⟩ := hI.v15 p15
            obtain ⟨lg, lc, e15, -⟩ := hrk.out.form (by rw [hrk.len]; simp)
            rw [hrk.len] at e15
            have f := (hR.ev 15 rfl rfl p15).trans e15
            exact J_indexAddr rfl _ (.tmp 127) (.const (.int .i64 0)) rfl (by rw [f]; exact ia_share0 W lg lc) (hK _ _ { hI with v16 := fun _ => ⟨p15, lg, lc, e15, rfl⟩ })
          refine JSteps.cons (fun V Ld a W hLi hpre hR hI K hK => ?_) ?_
          · have p16 : Ld 16 = true := hpre 16 (List.mem_of_elem_eq_true (by kernel_rfl))
            obtain ⟨p15, lg, lc, e15, e16⟩ := hI.v16 p16
            obtain ⟨Hk, hrk⟩ := hI.v15 p15
            have f := (hR.ev 16 rfl rfl p16).trans e16
            obtain ⟨D, dc, hc0, hc1, hrow, -⟩ := row_first hrk e15
            obtain ⟨D2, dc2, ee, q3, q4, q5⟩ := own_ints hrow rfl
            injection ee with ee1 ee2 ee3
            subst ee1; subst ee3
            exact J_load rfl _ (.tmp 128) rfl (by rw [f]; exact ld_share hc0 hc1) (hK _ _ { hI with v17 := fun _ => ⟨D, dc, rfl, q3, q4, fun b off e => .inr (q5 b off e).1⟩, rc1 := fun e => nfC hLi (hI.d23 e), d23 := fun e => nfC hLi (hI.d23 e) })
          refine JSteps.cons (fun V Ld a W hLi hpre hR hI K hK => ?_) ?_
          · have e := (hR.old 7 (by kernel_rfl)).trans (show _ = Value.pointer (some ⟨(w.heap.size + 1 + 1), 0, none⟩) from rfl)
            exact J_fieldAddr rfl _ (.tmp 7) 1 rfl (by rw [e]; exact fa_g1 W (w.heap.size + 1 + 1)) (hK _ _ { hI with v18 := fun _ => rfl })
          refine JSteps.cons (fun V Ld a W hLi hpre hR hI K hK => ?_) ?_
          · have p4 : Ld 4 = true := hpre 4 (List.mem_of_elem_eq_true (by kernel_rfl))
            have p18 : Ld 18 = true := hpre 18 (List.mem_of_elem_eq_true (by kernel_rfl))
            have f18 := (hR.ev 18 rfl rfl p18).trans (hI.v18 p18)
            obtain ⟨w', hs, hI'⟩ := hI.o19 p4 hgx4
            exact J_store rfl _ (.tmp 130) (.tmp 116) rfl (by rw [f18, hR.ev 4 rfl rfl p4]; exact hs) (hK _ _ hI')
          refine JSteps.cons (fun V Ld a W hLi hpre hR hI K hK => ?_) ?_
          · have e := (hR.old 7 (by kernel_rfl)).trans (show _ = Value.pointer (some ⟨(w.heap.size + 1 + 1), 0, none⟩) from rfl)
            exact J_fieldAddr rfl _ (.tmp 7) 2 rfl (by rw [e]; exact fa_g2 W (w.heap.size + 1 + 1)) (hK _ _ { hI with v20 := fun _ => rfl })
          refine JSteps.cons (fun V Ld a W hLi hpre hR hI K hK => ?_) ?_
          · have p9 : Ld 9 = true := hpre 9 (List.mem_of_elem_eq_true (by kernel_rfl))
            have p20 : Ld 20 = true := hpre 20 (List.mem_of_elem_eq_true (by kernel_rfl))
            have f20 := (hR.ev 20 rfl rfl p20).trans (hI.v20 p20)
            obtain ⟨w', hs, hI'⟩ := hI.o21 p9 hgx4
            exact J_store rfl _ (.tmp 131) (.tmp 121) rfl (by rw [f20, hR.ev 9 rfl rfl p9]; exact hs) (hK _ _ hI')
          refine JSteps.cons (fun V Ld a W hLi hpre hR hI K hK => ?_) ?_
          · have e := (hR.old 7 (by kernel_rfl)).trans (show _ = Value.pointer (some ⟨(w.heap.size + 1 + 1), 0, none⟩) from rfl)
            exact J_fieldAddr rfl _ (.tmp 7) 3 rfl (by rw [e]; exact fa_g3 W (w.heap.size + 1 + 1)) (hK _ _ { hI with v22 := fun _ => rfl })
          refine JSteps.cons (fun V Ld a W hLi hpre hR hI K hK => ?_) trivial
          · have p17 : Ld 17 = true := hpre 17 (List.mem_of_elem_eq_true (by kernel_rfl))
            have p22 : Ld 22 = true := hpre 22 (List.mem_of_elem_eq_true (by kernel_rfl))
            have f22 := (hR.ev 22 rfl rfl p22).trans (hI.v22 p22)
            obtain ⟨w', hs, hI'⟩ := hI.o23 p17 hgx4
            exact J_store rfl _ (.tmp 132) (.tmp 129) rfl (by rw [f22, hR.ev 17 rfl rfl p17]; exact hs) (hK _ _ hI')
        case refine_3 =>
          intro V Ld w9 hLd hI
          obtain ⟨DA, dca, e2, hDA⟩ := hI.v4 (hLd 4 (by decide))
          obtain ⟨DB, dcb, e5, hDB⟩ := hI.v9 (hLd 9 (by decide))
          obtain ⟨DK, dck, e17, hDK⟩ := hI.v17 (hLd 17 (by decide))
          obtain ⟨DK', dck', e17', hrc⟩ := hI.rc1 (hLd 23 (by decide))
          rw [e17] at e17'
          rw [← shV_inj e17'] at hrc
          rw [cond_t (hLd 19 (by decide)), cond_t (hLd 21 (by decide)), e2, e5] at hrc
          rw [List.length_map] at hrc
          have hss := hI.sv
          have HG9 := Lib.hid hrc
          have HR9 := Lib.hid (HR4.out.sav hss (fun e => by omega))
          have HB9 := Lib.hid (HB4.out.trans (hss.below w.heap.size HB4.out.size (fun x _ e => by omega)))
          have HDA := Lib.hid hDA
          have HDB := Lib.hid hDB
          have HDK := Lib.hid hDK
          clear hI hLd hrc hss hDA hDB hDK e2 e5 e17 e17' l1
          simp only [finL, putL, Act.put, Nat.reduceAdd]
          generalize V 0 = q0
          generalize V 1 = q1
          generalize V 2 = q2
          generalize V 3 = q3
          generalize V 4 = q4
          generalize V 5 = q5
          generalize V 6 = q6
          generalize V 7 = q7
          generalize V 8 = q8
          generalize V 9 = q9
          generalize V 10 = q10
          generalize V 11 = q11
          generalize V 12 = q12
          generalize V 13 = q13
          generalize V 14 = q14
          generalize V 15 = q15
          generalize V 16 = q16
          generalize V 17 = q17
          generalize V 18 = q18
          generalize V 20 = q20
          generalize V 22 = q22
          clear V
          simp only [List.setIfInBounds_toArray, List.set_cons_succ, List.set_cons_zero]
          have o0 := HG9.out.c0
          have o1 := HG9.out.c1
          have o2 := HG9.out.c2
          have o3 := HG9.out.c3
          have o4 := HG9.out.c4
          have r0 := HR9.out.c0
          have r1 := HR9.out.c1
          have r2 := HR9.out.c2
          have r3 := HR9.out.c3
          have r4 := HR9.out.c4
          have f0 := HR9.out.frozen 0
          have f1 := HR9.out.frozen 1
          have f2 := HR9.out.frozen 2
          have f3 := HR9.out.frozen 3
          have f4 := HR9.out.frozen 4
          have HGF := Lib.hid (show GiftR (fun b => w.heap.size + 6 ≤ b) w9 (giftV gh (slV DA S2.length dca) (slV DB T2.length dcb) gh (slV DK M2.length dck)) (spX p 5 lb ⟨gh, S, T, gkh, M⟩ ⟨oh, S1, T1, okh, M1⟩ ⟨xh, S2, T2, xkh, M2⟩) from gift_mix2 gh gh HDA.out HDB.out HDK.out (by simp) (by simp) (by omega))
          have HFL := Lib.hid (HR9.out.fill gh (slV DA S2.length dca) (slV DB T2.length dcb) gh (slV DK M2.length dck))
          go_wp2_with fail
          refine bodyPost_ret (results_gift3 rfl _ _ (w.heap.size + 1 + 1 + 1 + 1 + 1) rfl HFL.out) rfl ?_
          exact spoil_end _ rfl HB9.out HGF.out _ _ _ _ _
    · have E := Lib.hid (sp_h (lb := lb) (O := O) (X := X) hck hgl)
      rw [E.out.1, E.out.2.1, E.out.2.2]
      rw [hck] at HCK
      obtain ⟨gh, S, T, gkh, M⟩ := G
      obtain ⟨oh, S1, T1, okh, M1⟩ := O
      obtain ⟨xh, S2, T2, xkh, M2⟩ := X
      simp only at *
      have t1 : (gh != lh) = true := by simp [hgl]
      clear hck hgl E
      go_enter Tryd.func28, Tryd.ntmps28
      go_wp2_with fail
      refine gen_calls fun w1 hw1 => ?_
      have hb1 : Below w.heap.size w w1 := by rw [hw1]; exact bl_alloc _ (bl_alloc _ (bl_alloc _ (bl_alloc _ (bl_alloc _ (below_alloc _ _)))))
      have hP : PlanCell w1 w.heap.size p n h := by rw [hw1]; exact (((((PlanCell.new _ _ _ rfl).alloc _).alloc _).alloc _).alloc _).alloc _
      have hL : LieCell w1 (w.heap.size + 1) lh lk lb := by rw [hw1]; exact ((((LieCell.new _ _ _ (by simp)).below (below_alloc _ _)).below (below_alloc _ _)).below (below_alloc _ _)).below (below_alloc _ _)
      have hG : GiftCell w1 (w.heap.size + 1 + 1) gh (slV A S.length ca) (slV B T.length cb) gkh (slV C M.length cc) := by rw [hw1]; exact (((GiftCell.new _ _ _ _ _ (by simp)).alloc _).alloc _).alloc _
      have hO : GiftCell w1 (w.heap.size + 1 + 1 + 1) oh (slV A1 S1.length ca1) (slV B1 T1.length cb1) okh (slV C1 M1.length cc1) := by rw [hw1]; exact ((GiftCell.new _ _ _ _ _ (by simp)).alloc _).alloc _
      have hX : GiftCell w1 (w.heap.size + 1 + 1 + 1 + 1) xh (slV A2 S2.length ca2) (slV B2 T2.length cb2) xkh (slV C2 M2.length cc2) := by rw [hw1]; exact (GiftCell.new _ _ _ _ _ (by simp)).alloc _
      have hR : GiftCell w1 (w.heap.size + 1 + 1 + 1 + 1 + 1) 0 (.slice none 0 0) (.slice none 0 0) 0 (.slice none 0 0) := by rw [hw1]; exact GiftCell.new _ _ _ _ _ (by simp)
      have hz1 : w1.heap.size = w.heap.size + 6 := by rw [hw1]; simp
      clear hw1
      refine ret_below (HCK.out _ hb1) fun w2 hb2 => ?_
      have hz2 : w.heap.size + 6 ≤ w2.heap.size := by have := hb2.size; omega
      have HP := Lib.hid (hP.below hb2)
      have HL := Lib.hid (hL.below hb2)
      have HG := Lib.hid (hG.below hb2)
      have HO := Lib.hid (hO.below hb2)
      have HX := Lib.hid (hX.below hb2)
      have HR := Lib.hid (hR.below hb2)
      have HB := Lib.hid (below_trans hb1 hb2)
      clear hP hL hG hO hX hR hb1 hb2 HCK hz1
      have g0 := HG.out.c0
      have l0 := HL.out.c0
      have r0 := HR.out.c0
      have r1 := HR.out.c1
      have r2 := HR.out.c2
      have r3 := HR.out.c3
      have r4 := HR.out.c4
      have f0 := HR.out.frozen 0
      have f1 := HR.out.frozen 1
      have f2 := HR.out.frozen 2
      have f3 := HR.out.frozen 3
      have f4 := HR.out.frozen 4
      go_wp2_with fail
      refine bodyPost_ret (results_gift3 rfl _ _ (w.heap.size + 1 + 1 + 1 + 1 + 1) rfl (HR.out.fill 0 (.slice none 0 0) (.slice none 0 0) 0 (.slice none 0 0))) rfl ?_
      exact spoil_end _ rfl HB.out (zero_gift _ _) _ _ _ _ _
  · have E := Lib.hid (sp_chk (G := G) (lb := lb) (O := O) (X := X) hck)
    rw [E.out.1, E.out.2.1, E.out.2.2]
    have t1 : (chkE p n h lh lk != 0) = true := by simp [hck]
    obtain ⟨gh, S, T, gkh, M⟩ := G
    obtain ⟨oh, S1, T1, okh, M1⟩ := O
    obtain ⟨xh, S2, T2, xkh, M2⟩ := X
    simp only at *
    generalize chkE p n h lh lk = ck at *
    clear hck E
    go_enter Tryd.func28, Tryd.ntmps28
    go_wp2_with fail
    refine gen_calls fun w1 hw1 => ?_
    have hb1 : Below w.heap.size w w1 := by rw [hw1]; exact bl_alloc _ (bl_alloc _ (bl_alloc _ (bl_alloc _ (bl_alloc _ (below_alloc _ _)))))
    have hP : PlanCell w1 w.heap.size p n h := by rw [hw1]; exact (((((PlanCell.new _ _ _ rfl).alloc _).alloc _).alloc _).alloc _).alloc _
    have hL : LieCell w1 (w.heap.size + 1) lh lk lb := by rw [hw1]; exact ((((LieCell.new _ _ _ (by simp)).below (below_alloc _ _)).below (below_alloc _ _)).below (below_alloc _ _)).below (below_alloc _ _)
    have hG : GiftCell w1 (w.heap.size + 1 + 1) gh (slV A S.length ca) (slV B T.length cb) gkh (slV C M.length cc) := by rw [hw1]; exact (((GiftCell.new _ _ _ _ _ (by simp)).alloc _).alloc _).alloc _
    have hO : GiftCell w1 (w.heap.size + 1 + 1 + 1) oh (slV A1 S1.length ca1) (slV B1 T1.length cb1) okh (slV C1 M1.length cc1) := by rw [hw1]; exact ((GiftCell.new _ _ _ _ _ (by simp)).alloc _).alloc _
    have hX : GiftCell w1 (w.heap.size + 1 + 1 + 1 + 1) xh (slV A2 S2.length ca2) (slV B2 T2.length cb2) xkh (slV C2 M2.length cc2) := by rw [hw1]; exact (GiftCell.new _ _ _ _ _ (by simp)).alloc _
    have hR : GiftCell w1 (w.heap.size + 1 + 1 + 1 + 1 + 1) 0 (.slice none 0 0) (.slice none 0 0) 0 (.slice none 0 0) := by rw [hw1]; exact GiftCell.new _ _ _ _ _ (by simp)
    have hz1 : w1.heap.size = w.heap.size + 6 := by rw [hw1]; simp
    clear hw1
    refine ret_below (HCK.out _ hb1) fun w2 hb2 => ?_
    have hz2 : w.heap.size + 6 ≤ w2.heap.size := by have := hb2.size; omega
    have HP := Lib.hid (hP.below hb2)
    have HL := Lib.hid (hL.below hb2)
    have HG := Lib.hid (hG.below hb2)
    have HO := Lib.hid (hO.below hb2)
    have HX := Lib.hid (hX.below hb2)
    have HR := Lib.hid (hR.below hb2)
    have HB := Lib.hid (below_trans hb1 hb2)
    clear hP hL hG hO hX hR hb1 hb2 HCK hz1
    have r0 := HR.out.c0
    have r1 := HR.out.c1
    have r2 := HR.out.c2
    have r3 := HR.out.c3
    have r4 := HR.out.c4
    have f0 := HR.out.frozen 0
    have f1 := HR.out.frozen 1
    have f2 := HR.out.frozen 2
    have f3 := HR.out.frozen 3
    have f4 := HR.out.frozen 4
    go_wp2_with fail
    refine bodyPost_ret (results_gift3 rfl _ _ (w.heap.size + 1 + 1 + 1 + 1 + 1) rfl (HR.out.fill 0 (.slice none 0 0) (.slice none 0 0) 0 (.slice none 0 0))) rfl ?_
    exact spoil_end _ rfl HB.out (zero_gift _ _) _ _ _ _ _
end Go.Proofs.YtjckpammcgeloaaDoor
namespace Go.Proofs.YtjckpammcgeloaaDoor
open Go.RowKit

def IxN (T : Nat → Bool) (m : Nat) (i : Int) : Prop := (i = -1 ∧ ∀ j, j < m → T j = false) ∨ ∃ k : Nat, i = k ∧ k < m ∧ T k = true ∧ ∀ j, j < k → T j = false
/-- Whether it holds for one of the first m. -/
def anyN (T : Nat → Bool) (m : Nat) : Bool := (List.range m).any T
theorem ixN_any {T : Nat → Bool} {m : Nat} {i : Int} (h : IxN T m i) : decide (0 ≤ i) = anyN T m := by
  rcases h with ⟨rfl, h⟩ | ⟨k, rfl, hk, ht, -⟩
  · have : anyN T m = false := by
      unfold anyN
      rw [List.any_eq_false]
      intro x hx
      rw [h x (List.mem_range.1 hx)]; simp
    rw [this]; rfl
  · have : anyN T m = true := by
      unfold anyN
      rw [List.any_eq_true]
      exact ⟨k, List.mem_range.2 hk, ht⟩
    rw [this]; exact decide_eq_true (by omega)
/-! ### The closures of Apply -/
/-- Where the holder is. -/
def isH (S : List Shr) (y : Int) (k : Nat) : Bool := hS S k == y
theorem neg_of (i : Int) : decide (i < 0) = !decide (0 ≤ i) := by
  by_cases h : 0 ≤ i
  · rw [decide_eq_true h, decide_eq_false (by omega)]; rfl
  · rw [decide_eq_false h, decide_eq_true (by omega)]; rfl
end Go.Proofs.YtjckpammcgeloaaDoor
namespace Go.Proofs.YtjckpammcgeloaaDoor
open Go.RowKit

/-! ### What Apply says -/
def ixF (T : Nat → Bool) : Nat → Int
  | 0 => -1
  | m + 1 => if 0 ≤ ixF T m then ixF T m else if T m then (m : Int) else -1
theorem ixF_is (T : Nat → Bool) : ∀ m, IxN T m (ixF T m)
  | 0 => .inl ⟨rfl, fun j hj => absurd hj (by omega)⟩
  | m + 1 => by
    rcases ixF_is T m with ⟨h1, h2⟩ | ⟨k, h1, h2, h3, h4⟩
    · simp only [ixF]
      rw [if_neg (by omega)]
      cases hT : T m with
      | true => exact .inr ⟨m, rfl, by omega, hT, fun j hj => h2 j hj⟩
      | false => exact .inl ⟨rfl, fun j hj => by
          rcases Nat.lt_or_ge j m with h | h
          · exact h2 j h
          · rw [show j = m by omega]; exact hT⟩
    · simp only [ixF]
      rw [if_pos (by omega)]
      exact .inr ⟨k, h1, by omega, h3, h4⟩
theorem ixN_eq {T : Nat → Bool} {m : Nat} {i j : Int} (h : IxN T m i) (g : IxN T m j) : i = j := by
  rcases h with ⟨h1, h2⟩ | ⟨k, h1, h2, h3, h4⟩
  · rcases g with ⟨g1, g2⟩ | ⟨l, g1, g2, g3, g4⟩
    · omega
    · have := h2 l g2; rw [g3] at this; cases this
  · rcases g with ⟨g1, g2⟩ | ⟨l, g1, g2, g3, g4⟩
    · have := g2 k h2; rw [h3] at this; cases this
    · rcases Nat.lt_trichotomy k l with h | h | h
      · have := g4 k h; rw [h3] at this; cases this
      · omega
      · have := h4 l h; rw [g3] at this; cases this
theorem anyN_of {T : Nat → Bool} {m k : Nat} (hk : k < m) (h : T k = true) : anyN T m = true := by
  unfold anyN; rw [List.any_eq_true]; exact ⟨k, List.mem_range.2 hk, h⟩
theorem ixF_any {T : Nat → Bool} {m : Nat} (h : anyN T m = true) : ∃ k : Nat, ixF T m = k ∧ k < m ∧ T k = true := by
  have h1 := ixN_any (ixF_is T m)
  rw [h] at h1
  have h1 := of_decide_eq_true h1
  rcases ixF_is T m with ⟨g1, -⟩ | ⟨k, g1, g2, g3, -⟩
  · omega
  · exact ⟨k, g1, g2, g3⟩
def hasH (M : List ShN) (x : Nat) : Bool := anyN (isH (shL M) x) M.length
def apI (M : List ShN) (x : Nat) : Nat := (ixF (isH (shL M) x) M.length).toNat
def apOk (N M : List ShN) : Bool := !anyN (fun k => !hasH M (hN N k)) N.length
def apE (N M : List ShN) : Int := if apOk N M = true then (if N.length = 0 ∨ (vN N 0).length = (vN M 0).length then 0 else 2) else 5
def apT (p : Nat) (N M : List ShN) : List ShN := (List.range N.length).map fun k => (hN N k, linN p (vN N k) (vN M (apI M (hN N k))) 1)
def apL (p : Nat) (N M : List ShN) : List ShN := if apE N M = 0 then apT p N M else []
theorem apT_len (p : Nat) (N M : List ShN) : (apT p N M).length = N.length := by simp [apT]
theorem apT_at {p k : Nat} {N M : List ShN} (h : k < N.length) : hN (apT p N M) k = hN N k ∧ vN (apT p N M) k = linN p (vN N k) (vN M (apI M (hN N k))) 1 := by
  simp [apT, hN, vN, List.getD_eq_getElem?_getD, h]
theorem apT_take {p k : Nat} {N M : List ShN} (h : k < N.length) : (apT p N M).take (k + 1) = (apT p N M).take k ++ [(hN N k, linN p (vN N k) (vN M (apI M (hN N k))) 1)] := by
  rw [List.take_succ_eq_append_getElem (by rw [apT_len]; exact h), getD_at (by rw [apT_len]; exact h), (apT_at h).1, (apT_at h).2]
theorem apOk_at {N M : List ShN} (h : apOk N M = true) {k : Nat} (hk : k < N.length) : hasH M (hN N k) = true := by
  unfold apOk at h
  cases hh : hasH M (hN N k) with
  | true => rfl
  | false => rw [anyN_of hk (show (fun k => !hasH M (hN N k)) k = true by simp [hh])] at h; cases h
theorem apI_at {M : List ShN} {x : Nat} (h : hasH M x = true) : ixF (isH (shL M) x) M.length = (apI M x : Int) ∧ apI M x < M.length ∧ hN M (apI M x) = x := by
  obtain ⟨k, h1, h2, h3⟩ := ixF_any h
  unfold apI
  rw [h1, Int.toNat_natCast]
  refine ⟨rfl, h2, ?_⟩
  unfold isH at h3
  rw [hS_shL h2] at h3
  have := eq_of_beq h3
  omega
theorem apI_of {p h : Nat} {M : List ShN} (g : GoodN p h M) {k : Nat} (hk : k < M.length) : hasH M (hN M k) = true ∧ apI M (hN M k) = k := by
  have h1 : hasH M (hN M k) = true := anyN_of hk (by unfold isH; rw [hS_shL hk]; simp)
  refine ⟨h1, ?_⟩
  obtain ⟨-, h2, h3⟩ := apI_at h1
  rcases Nat.decEq (apI M (hN M k)) k with hne | he
  · exact absurd h3 (hsN_ne g.nd h2 hk hne)
  · exact he
end Go.Proofs.YtjckpammcgeloaaDoor
namespace Go.Proofs.YtjckpammcgeloaaDoor
open Go.RowKit

theorem run_make_int (n : Nat) (w : World) (h : n ≤ 1099511627776) : (Instr.makeSlice 22 (.int .i64 (n : Int)) (.int .i64 (n : Int))).run Tryd.prog w = .ok (.slice (some ⟨w.heap.size, 0, none⟩) n n) (w.alloc (.cells (Array.replicate n (.int .i64 0)) 3)) := by
  obtain ⟨i, hi, hz0, hz1, hz2⟩ := info_parts info_int
  have := run_make (P := Tryd.prog) w 22 3 i _ Tryd.underlying22 hi hz0 .i64 .i64 n n (by omega) (Int.le_refl _) (by rw [hz2]; omega) (by omega)
  have e : madeCells (Value.int .i64 0).cells (n * i.size) = Array.replicate n (.int .i64 0) := by
    rw [hz1, Nat.mul_one, ← Array.toList_inj, show (Value.int .i64 0).cells = #[Value.int .i64 0] from rfl, toList_madeCells_one]; simp
  rw [Int.toNat_natCast, e] at this
  exact this
theorem nat_blk0 (w : World) (n : Nat) : NatBlk (w.alloc (.cells (Array.replicate n (.int .i64 0)) 3)) w.heap.size (List.replicate n 0) := by
  have := heap_alloc_new w (.cells (Array.replicate n (.int .i64 0)) 3)
  unfold NatBlk
  rw [this]
  congr 2
  rw [← Array.toList_inj]; simp [valsN]
theorem ShErr.up {S : List Shr} {er : Int} {w w' : World} {e : Ending} {w2 : World} (h : ShErr S er w' e w2) (hb : Below w.heap.size w w') : ShErr S er w e w2 := by
  obtain ⟨A, c, rfl, h1, h2⟩ := h
  have := hb.size
  exact ⟨A, c, rfl, h1.mono (fun b _ hb => by omega), below_trans hb h2⟩

attribute [local go_sem high] run_make_int
end Go.Proofs.YtjckpammcgeloaaDoor
namespace Go.Proofs.YtjckpammcgeloaaDoor
open Go.RowKit

theorem dlE_made {p n h m : Nat} {ran : List Nat} (P : PlanN p n h) (hm : m ≤ 2048) (hr : ∀ x ∈ ran, x < p) (hl : ran.length = m * (n - 1)) :
    dlE p n h (ofN (List.replicate m 0)) (ofN ran) = 0 ∧ dlL p n h (ofN (List.replicate m 0)) (ofN ran) = dealN p n h (List.replicate m 0) ran :=
  dl_nats P.pl (by rw [List.length_replicate]; exact hm) (fun x hx => by rw [(List.mem_replicate.1 hx).2]; have := P.p1; omega) hr (by rw [List.length_replicate]; exact hl)
/-! ### Checks -/
def ordB (S : List Shr) : Bool := (List.range S.length).all fun k => hS S k == (k : Int) + 1
theorem ordB_yes {S : List Shr} (h : ∀ k, k < S.length → hS S k = (k : Int) + 1) : ordB S = true := by
  unfold ordB; rw [List.all_eq_true]; intro k hk; simpa using h k (List.mem_range.1 hk)
theorem ordB_no {S : List Shr} {k : Nat} (hk : k < S.length) (h : ¬ hS S k = (k : Int) + 1) : ordB S = false := by
  cases hb : ordB S with
  | false => rfl
  | true =>
    unfold ordB at hb
    rw [List.all_eq_true] at hb
    exact absurd (by simpa using hb k (List.mem_range.2 hk)) h
noncomputable def ckB (p n h : Int) (S : List Shr) : Bool := ftB p n h S && (decide ((S.length : Int) = h) && (ordB S && (decide (cmE p n h S = 0) && (cmL p n h S).all fun x => x == 0)))
theorem ckB_ft {p n h : Int} {S : List Shr} (H : ftB p n h S = false) : false = ckB p n h S := by unfold ckB; rw [H]; rfl
theorem ckB_len {p n h : Int} {S : List Shr} (H : ¬ (S.length : Int) = h) : false = ckB p n h S := by unfold ckB; rw [decide_eq_false H]; simp
theorem ckB_ord {p n h : Int} {S : List Shr} (H : ordB S = false) : false = ckB p n h S := by unfold ckB; rw [H]; simp
theorem ckB_err {p n h : Int} {S : List Shr} (H : ¬ cmE p n h S = 0) : false = ckB p n h S := by unfold ckB; rw [decide_eq_false H]; simp
theorem ckB_all {p n h : Int} {S : List Shr} (h1 : ftB p n h S = true) (h2 : (S.length : Int) = h) (h3 : ordB S = true) (h4 : cmE p n h S = 0) : ((cmL p n h S).all fun x => x == 0) = ckB p n h S := by
  unfold ckB; rw [h1, decide_eq_true h2, h3, decide_eq_true h4]; simp
theorem any_ne (L : List Nat) : (!(ofN L).any fun x => x != 0) = L.all fun x => x == 0 := by
  induction L with
  | nil => rfl
  | cons x L ih =>
    simp only [ofN, List.map_cons, List.any_cons, List.all_cons, Bool.not_or] at ih ⊢
    rw [ih]
    congr 1
    rw [Bool.eq_iff_iff]; simp
theorem cmL_lenS {p n h : Int} {S : List Shr} (hsh : Short S) : (cmL p n h S).length ≤ 1048576 := by
  unfold cmL
  split
  · rw [combN_len]
    cases S with
    | nil => simp [natL, vN]
    | cons s S =>
      have := hsh 0 (by simp)
      simpa [natL, vN, natS, vS] using this
  · simp
end Go.Proofs.YtjckpammcgeloaaDoor
namespace Go.Proofs.YtjckpammcgeloaaDoor
open Go.RowKit

/-! ### Clones -/
theorem ShP.flat {P : Nat → Prop} {w : World} {a : Addr} {c : Nat} {S : List Shr} (h : ShP P w (some a) c S) : ∃ H : List HV, H.length = S.length ∧
    (∀ k, k < S.length → (hvAt H k).1 = hS S k ∧ ∃ B c', (hvAt H k).2 = .slice B (vS S k).length c' ∧ IntsP P w B c' (vS S k)) ∧ ∀ j u, (flatH H)[j]? = some u → w.cell? (a.add j) = some u := by
  have h1 : ∀ k, ∃ v, k < S.length → ∃ B c' b off, v = .slice B (vS S k).length c' ∧ IntsP P w B c' (vS S k) ∧ some a = some ⟨b, off, none⟩ ∧ w.cell? ⟨b, off + k * 2, none⟩ = some (.int .i64 (hS S k)) ∧ w.cell? ⟨b, off + k * 2 + 1, none⟩ = some v := fun k => by
    by_cases hk : k < S.length
    · obtain ⟨b, off, B, c', hA, -, -, x0, x1, x2⟩ := h.at_ k hk
      exact ⟨_, fun _ => ⟨B, c', b, off, rfl, x2, hA, x0, x1⟩⟩
    · exact ⟨.slice none 0 0, fun hk' => absurd hk' hk⟩
  obtain ⟨f, hf⟩ := Classical.axiomOfChoice h1
  have hat : ∀ k, k < S.length → hvAt ((List.range S.length).map fun k => (hS S k, f k)) k = (hS S k, f k) := fun k hk => by simp [hvAt, List.getD_eq_getElem?_getD, hk]
  refine ⟨(List.range S.length).map fun k => (hS S k, f k), by simp, fun k hk => ?_, fun j u hu => ?_⟩
  · obtain ⟨B, c', b, off, e1, e2, -⟩ := hf k hk
    rw [hat k hk]
    exact ⟨rfl, B, c', e1, e2⟩
  · have hj : j < S.length * 2 := by
      rcases Nat.lt_or_ge j (S.length * 2) with h2 | h2
      · exact h2
      · rw [List.getElem?_eq_none (by rw [flatH_len]; simpa using h2)] at hu; cases hu
    have hk : j / 2 < S.length := by omega
    obtain ⟨B, c', b, off, e1, e2, e3, e4, e5⟩ := hf (j / 2) hk
    obtain ⟨g1, g2⟩ := flatH_at ((List.range S.length).map fun k => (hS S k, f k)) (j / 2) (by simpa using hk)
    rw [hat _ hk] at g1 g2
    injection e3 with e3
    subst e3
    have hadd : ∀ i, (⟨b, off, none⟩ : Addr).add i = ⟨b, off + i, none⟩ := fun i => by
      unfold Addr.add; split
      · rename_i h; subst h; rfl
      · rfl
    rw [hadd]
    rcases Nat.mod_two_eq_zero_or_one j with h2 | h2
    · have : j = j / 2 * 2 := by omega
      rw [this] at hu ⊢
      rw [g1] at hu
      rw [e4, ← hu]
    · have : j = j / 2 * 2 + 1 := by omega
      rw [this] at hu ⊢
      rw [g2] at hu
      rw [← Nat.add_assoc, e5, ← hu]
theorem hv_empty (w : World) : HvOwn (w.alloc (.cells #[] 35)) w.heap.size (.slice (some ⟨w.heap.size, 0, none⟩) 0 0) [] :=
  ⟨rfl, .inr ⟨w.heap.size, 0, #[], rfl, Nat.le_refl _, heap_alloc_new w _, Nat.le_refl _, Nat.zero_le _, rfl, rfl⟩⟩
theorem ints_empty (w : World) : (w.alloc (.cells #[] 3)).ownsRow w.heap.size 3 1 (.slice (some ⟨w.heap.size, 0, none⟩) 0 0) ([] : List Int).length (valsI []) :=
  ⟨rfl, .inr ⟨w.heap.size, 0, #[], rfl, Nat.le_refl _, heap_alloc_new w _, Nat.le_refl _, Nat.zero_le _, rfl, rfl⟩⟩
theorem app_hvs {ops : Array Oper} {rest : List Oper} {o : Oper} {a : Act} {Q : Exit → Act → World → Prop} (hgd : o.guard = none) (s x : Operand)
    (ho : o.op = .call { callee := .builtin .append, args := #[s, x], argTypes := #[33, 33] })
    {base : Nat} {w : World} {v : Value} {n : Nat} {ad : Addr} {c : Nat} (H : List HV) (hs : a.eval s = v) (hown : HvOwn w base v []) (hn : n = H.length)
    (hx : a.eval x = .slice (some ad) n c) (hT : ∀ j u, (flatH H)[j]? = some u → w.cell? (ad.add j) = some u) (hy : ∀ k, k < H.length → isSl (hvAt H k).2 = true) (hl : H.length ≤ 1048576) (hbase : base ≤ w.heap.size)
    (h : ∀ v' w', HvOwn w' base v' H → Below base w w' → wpList Tryd.prog ops Q rest (a.put o.dst v') w') :
    wpList Tryd.prog ops Q (o :: rest) a w := by
  subst hn
  obtain ⟨i0, hi, hz0, hz1, hz2⟩ := info_parts info_share
  refine wpList_append_own w hgd s x 33 ho base 35 i0 _ 2 32 Tryd.underlying33 hi hz0 hz1 hz2 rfl (by omega) v 0 (flatH []) hs hown ad H.length c (flatH H) hx (flatH_len H) hT (flatH_one H hy) (by unfold maxLen; omega) (by omega) hbase ?_
  intro v' w' h2 h3 _
  refine h v' w' ?_ ((Below.refl _ _).grown h3 hbase (fun k hk => (World.ownsRow.lt hown k hk).1))
  unfold HvOwn; simpa [flatH] using h2
theorem app_intsO {ops : Array Oper} {rest : List Oper} {o : Oper} {a : Act} {Q : Exit → Act → World → Prop} (hgd : o.guard = none) (s x : Operand)
    (ho : o.op = .call { callee := .builtin .append, args := #[s, x], argTypes := #[22, 22] })
    {base : Nat} {w : World} {v : Value} {ad : Addr} {c : Nat} (L : List Int) (hs : a.eval s = v) (hown : w.ownsRow base 3 1 v ([] : List Int).length (valsI []))
    (hx : a.eval x = .slice (some ad) L.length c) (hT : ∀ j u, (valsI L)[j]? = some u → w.cell? (ad.add j) = some u) (hl : L.length ≤ 4294967296) (hbase : base ≤ w.heap.size)
    (h : ∀ v' w', w'.ownsRow base 3 1 v' L.length (valsI L) → Below base w w' → wpList Tryd.prog ops Q rest (a.put o.dst v') w') :
    wpList Tryd.prog ops Q (o :: rest) a w := by
  obtain ⟨i0, hi, hz0, hz1, hz2⟩ := info_parts info_int
  refine wpList_append_own w hgd s x 22 ho base 3 i0 _ 1 8 Tryd.underlying22 hi hz0 hz1 hz2 rfl (by omega) v 0 (valsI []) hs hown ad L.length c (valsI L) hx (by simp [valsI]) hT (valsI_one L) (by unfold maxLen; omega) (by omega) hbase ?_
  intro v' w' h2 h3 _
  refine h v' w' ?_ ((Below.refl _ _).grown h3 hbase (fun k hk => (World.ownsRow.lt hown k hk).1))
  simpa [valsI] using h2
set_option maxRecDepth 100000 in
set_option maxHeartbeats 1000000 in
theorem cloneInts_any (A : Option Addr) (L : List Int) (c : Nat) (w : World) (hI : IntsAt w A L) (hok : IOK A c L.length) (hl : L.length ≤ 1048576) :
    Calls Tryd.prog 63 #[.slice A L.length c] w (fun e w' => ∃ B c', e = .returned (.slice B L.length c') ∧ IntsP (fun b => w.heap.size ≤ b) w' B c' L ∧ Below w.heap.size w w') := by
  rcases A with _ | a
  · obtain rfl := hok.nil rfl
    have : L = [] := List.eq_nil_of_length_eq_zero (by have := hok.len; omega)
    subst this
    clear hI hok
    have he : ∀ w : World, (binOp .eql 22 (.slice none 0 0) (.slice none 0 0)).run Tryd.prog w = .ok (.bool true) w := fun _ => rfl
    go_enter Tryd.func63, Tryd.ntmps63
    go_wp2
    go_ret
    exact ⟨none, 0, rfl, IntsP.nil _ _, Below.refl _ _⟩
  · have HS := Lib.hid (IntsAt.news (hI.keep (P := fun _ => True) (w' := w.alloc (.cells #[] 3)) (fun _ _ _ => .inr trivial) ⟨(below_alloc _ _).size, fun b _ hlt => (below_alloc w _).block b hlt⟩) (hok.spot.elim .inl (fun g => .inr (g a rfl))))
    have he : ∀ w : World, (binOp .eql 22 (.slice (some a) L.length c) (.slice none 0 0)).run Tryd.prog w = .ok (.bool false) w := fun _ => rfl
    clear hI hok
    go_enter Tryd.func63, Tryd.ntmps63
    go_wp2_with (first | (at_builtin; refine app_intsO rfl (.tmp 5) (.tmp 6) rfl (base := w.heap.size) (v := .slice (some ⟨w.heap.size, 0, none⟩) 0 0) L rfl (ints_empty w) rfl HS.out (by omega) (by simp) ?_; intro v w1 hown hb; clear he HS) | fail)
    obtain ⟨B, c', rfl, h1, h2, h3⟩ := own_ints hown rfl
    have HX := Lib.hid (show IntsP (fun b => w.heap.size ≤ b) w1 B c' L from ⟨h1, h2, fun b off e => .inr (h3 b off e).1⟩)
    clear hown h1 h2 h3
    go_wp2_with fail
    go_ret
    exact ⟨B, c', rfl, HX.out, below_of_alloc hb (Nat.le_refl _)⟩
end Go.Proofs.YtjckpammcgeloaaDoor
