/-
  AttackerOthers: the walk.
  AttackerAll: the plain law: how many values of two gifts differ.
  law42's count: how many values of two gifts of one form differ, and how many there are.
  Gifts that go into variables, in a region that draws its order: any number of them.
  Conditions: those that each theorem names.
-/
import Derived.Test.YtjckpammcgeloaaDoorM11
import Derived.Maps.AppendAt
set_option linter.unusedVariables false
set_option linter.unusedSimpArgs false
namespace Go.Proofs.YtjckpammcgeloaaDoor
open Go.RowKit

theorem ld_plan {w : World} {x : Nat} {p n h : Int} (H : PlanCell w x p n h) : (Instr.loadAt 29 (.pointer (some ⟨x, 0, none⟩))).run Tryd.prog w = .ok (planV p n h) w := by
  have h0 := H.c0
  have h1 := H.c1
  have h2 := H.c2
  go_simp
theorem al_gift (w : World) : (Instr.alloc 37 true (.tuple #[])).run Tryd.prog w = .ok (.pointer (some ⟨w.heap.size, 0, none⟩)) (w.alloc (.cells #[.int .i64 0, .slice none 0 0, .slice none 0 0, .int .i64 0, .slice none 0 0] 37)) := by go_simp
theorem enter_gift (args : Array Value) (w : World) : (callFunc 13 args).run Tryd.prog w = .ok (.enter 13 args) w :=
  Go.MuLone.run_callFunc_enter Tryd.func13 (by kernel_rfl) rfl args w
def othPL (W0 : World) (xa xb g1 g2 g3 n a2 a5 b2 b5 c1 c3 c5 c7 vb vo wb wo : Nat) (A2 A5 B2 B5 C1 C5 : Option Addr) (m3 : Int) : List (Pr Bl) := [Pr.eq (.bool true), Pr.eq (.bool true), Pr.eq (.pointer (some ⟨xa, 1, none⟩)), Pr.eq (.slice A5 n a5), Pr.eq (.pointer (some ⟨g2, 1, none⟩)), Pr.eq (.slice A2 n a2), Pr.eq (.bool true), Pr.eq (.bool true), Pr.eq (.bool true), Pr.eq (.pointer (some ⟨xa, 2, none⟩)), Pr.eq (.slice B5 n b5), Pr.eq (.pointer (some ⟨g2, 2, none⟩)), Pr.eq (.slice B2 n b2), Pr.eq (.bool true), Pr.eq (.bool true), Pr.eq (.bool true), Pr.eq (.pointer (some ⟨xa, 3, none⟩)), Pr.eq (shV 2 (.slice C5 1 c5)), Pr.lit W0.heap.size 1 #[.int .i64 2, .slice C5 1 c5] 35, Pr.eq (.pointer (some ⟨g1, 3, none⟩)), Pr.eq (shV 2 (.slice C1 1 c1)), Pr.lit W0.heap.size 1 #[.int .i64 2, .slice C1 1 c1] 35, Pr.eq (.bool true), Pr.eq (.bool true), Pr.eq (.bool true), Pr.eq (.pointer (some ⟨xb, 3, none⟩)), Pr.eq (.pointer (some ⟨xb, 4, none⟩)), Pr.eq (.slice (some ⟨vb, vo, none⟩) 1 c7), Pr.eq (.pointer (some ⟨vb, vo, none⟩)), Pr.eq (.int .i64 m3), Pr.eq (.pointer (some ⟨g3, 3, none⟩)), Pr.eq (.pointer (some ⟨g3, 4, none⟩)), Pr.eq (.slice (some ⟨wb, wo, none⟩) 1 c3), Pr.eq (.pointer (some ⟨wb, wo, none⟩)), Pr.eq (.int .i64 m3), Pr.eq (.bool true), Pr.eq (.bool true), Pr.eq (.bool true)]
set_option maxRecDepth 100000 in
set_option maxHeartbeats 16000000 in
theorem attackerOthers_walk (A0 : Option Addr) (L0 : List Int) (c0 : Nat) (w : World) (hB : Bases w) (hl0 : L0.length ≤ maxLen) (hI0 : IntsAt w A0 L0) (_ : ∀ n ∈ L0, -9223372036854775808 ≤ n ∧ n ≤ 9223372036854775807) :
    Calls Tryd.prog 6 #[.slice A0 L0.length c0] w (RetB (.bool true) w) := by
  have HB := Lib.hid hB
  clear hB
  by_cases hlight : (L0.length : Int) ≤ 500
  · have hL := light_any A0 L0.length c0 w
    rw [decide_eq_true hlight] at hL
    have HLt := Lib.hid hL
    clear hL hlight
    go_enter Tryd.func6, Tryd.ntmps6
    go_wp2_with fail
    refine ret_pure HLt.out ?_
    clear HLt
    go_wp2_with fail
    refine (roll_any A0 L0 c0 _ hl0 hI0).mono ?_
    rintro e w1 ⟨D, rfl, hDs, hD, hb1⟩
    have hE1 : Env w w1 D L0 := ⟨hD, hDs, hb1⟩
    clear hI0 hD hb1
    go_wp2_with fail
    refine gen_calls fun w2 hw2 => ?_
    have hpc : PlanCell w2 w1.heap.size 500000003 2 4 := by rw [hw2]; exact PlanCell.new _ _ _ rfl
    have hE2 : Env w w2 D L0 := hE1.mv (by rw [hw2]; exact below_alloc _ _)
    have hxD : ¬ w1.heap.size = D := by have := hE1.lt; omega
    generalize w1.heap.size = px at *
    clear hw2 hE1
    refine (next_any D L0 4 _ hE2.dice (by omega)).mono ?_
    rintro e w3 ⟨rfl, hD3, hg3⟩
    obtain ⟨n1, n2⟩ := nextV_range L0 4 (by omega)
    generalize nextV L0 4 = n0 at *
    obtain ⟨n, rfl⟩ := Int.eq_ofNat_of_zero_le n1
    have hE3 := hE2.next hD3 hg3
    have HPL := Lib.hid (show PlanCell w3 px 500000003 2 4 from (hg3.block px (blk_lt hpc) (fun e => by injection e with e; omega)).trans hpc)
    have hn4 : n < 4 := by omega
    have hpD : ¬ (px = D) := hxD
    have hDW : D < w3.heap.size := hE3.lt
    have HE3 := Lib.hid hE3
    clear hpc hE2 hD3 hg3 n1 n2 hE3
    go_wp2_with fail
    refine wp_region_J2 (Tr w3 D 500000003 n 2 4 2 2 3) (by kernel_rfl) (by kernel_rfl) (by kernel_rfl) ?_ ?_ ?_
    case refine_1 => exact fun V => Tr.start ⟨_, HE3.out.dice⟩ V
    case refine_2 =>
      refine JSteps.cons (fun V Ld a W hLi hpre hR hI K hK => ?_) ?_
      · have e := (hR.old 3 (by kernel_rfl)).trans (show _ = Value.pointer (some ⟨D, 0, none⟩) from rfl)
        exact J_move rfl (.tmp 3) rfl (hK _ _ { hI with d0 := fun _ => e })
      refine JSteps.cons (fun V Ld a W hLi hpre hR hI K hK => ?_) ?_
      · have e := (hR.old 4 (by kernel_rfl)).trans (show _ = Value.pointer (some ⟨px, 0, none⟩) from rfl)
        exact J_load rfl _ (.tmp 4) rfl (by rw [e]; exact ld_plan ((hI.sv.block px (blk_lt HPL.out) hpD).trans HPL.out)) (hK _ _ { hI with p0 := fun _ => rfl })
      refine JSteps.cons (fun V Ld a W hLi hpre hR hI K hK => ?_) ?_
      · have e := (hR.old 5 (by kernel_rfl)).trans (show _ = Value.int .i64 (n : Int) from rfl)
        exact J_move rfl (.tmp 5) rfl (hK _ _ { hI with n0 := fun _ => e })
      refine JSteps.cons (fun V Ld a W hLi hpre hR hI K hK => ?_) ?_
      · have p0 : Ld 0 = true := hpre 0 (List.mem_of_elem_eq_true (by kernel_rfl))
        have p1 : Ld 1 = true := hpre 1 (List.mem_of_elem_eq_true (by kernel_rfl))
        have p2 : Ld 2 = true := hpre 2 (List.mem_of_elem_eq_true (by kernel_rfl))
        have f0 := (hR.ev 0 rfl rfl p0).trans (hI.d0 p0)
        have f1 := (hR.ev 1 rfl rfl p1).trans (hI.p0 p1)
        have f2 := (hR.ev 2 rfl rfl p2).trans (hI.n0 p2)
        obtain ⟨R, hd⟩ := hI.dice
        refine J_call rfl _ _ _ rfl enter_gift (by simp only [List.map_toArray, List.map_cons, List.map_nil, f0, f1, f2]; rfl) (gift_any D R 500000003 2 4 2 n W hd (by omega) (by omega) (by omega)) ?_
        rintro e w' ⟨v, G, R', rfl, hGR, hM, hd', hg⟩
        exact ⟨_, rfl, hK _ _ (hI.oG0 hDW hLi hGR hM hd' hg)⟩
      refine JSteps.cons (fun V Ld a W hLi hpre hR hI K hK => ?_) ?_
      · have e := (hR.old 3 (by kernel_rfl)).trans (show _ = Value.pointer (some ⟨D, 0, none⟩) from rfl)
        exact J_move rfl (.tmp 3) rfl (hK _ _ { hI with d1 := fun _ => e })
      refine JSteps.cons (fun V Ld a W hLi hpre hR hI K hK => ?_) ?_
      · have e := (hR.old 4 (by kernel_rfl)).trans (show _ = Value.pointer (some ⟨px, 0, none⟩) from rfl)
        exact J_load rfl _ (.tmp 4) rfl (by rw [e]; exact ld_plan ((hI.sv.block px (blk_lt HPL.out) hpD).trans HPL.out)) (hK _ _ { hI with p1 := fun _ => rfl })
      refine JSteps.cons (fun V Ld a W hLi hpre hR hI K hK => ?_) ?_
      · have e := (hR.old 5 (by kernel_rfl)).trans (show _ = Value.int .i64 (n : Int) from rfl)
        exact J_move rfl (.tmp 5) rfl (hK _ _ { hI with n1 := fun _ => e })
      refine JSteps.cons (fun V Ld a W hLi hpre hR hI K hK => ?_) ?_
      · have p4 : Ld 4 = true := hpre 4 (List.mem_of_elem_eq_true (by kernel_rfl))
        have p5 : Ld 5 = true := hpre 5 (List.mem_of_elem_eq_true (by kernel_rfl))
        have p6 : Ld 6 = true := hpre 6 (List.mem_of_elem_eq_true (by kernel_rfl))
        have f0 := (hR.ev 4 rfl rfl p4).trans (hI.d1 p4)
        have f1 := (hR.ev 5 rfl rfl p5).trans (hI.p1 p5)
        have f2 := (hR.ev 6 rfl rfl p6).trans (hI.n1 p6)
        obtain ⟨R, hd⟩ := hI.dice
        refine J_call rfl _ _ _ rfl enter_gift (by simp only [List.map_toArray, List.map_cons, List.map_nil, f0, f1, f2]; rfl) (gift_any D R 500000003 2 4 2 n W hd (by omega) (by omega) (by omega)) ?_
        rintro e w' ⟨v, G, R', rfl, hGR, hM, hd', hg⟩
        exact ⟨_, rfl, hK _ _ (hI.oG1 hDW hLi hGR hM hd' hg)⟩
      refine JSteps.cons (fun V Ld a W hLi hpre hR hI K hK => ?_) ?_
      · have e := (hR.old 3 (by kernel_rfl)).trans (show _ = Value.pointer (some ⟨D, 0, none⟩) from rfl)
        exact J_move rfl (.tmp 3) rfl (hK _ _ { hI with d2 := fun _ => e })
      refine JSteps.cons (fun V Ld a W hLi hpre hR hI K hK => ?_) ?_
      · have e := (hR.old 4 (by kernel_rfl)).trans (show _ = Value.pointer (some ⟨px, 0, none⟩) from rfl)
        exact J_load rfl _ (.tmp 4) rfl (by rw [e]; exact ld_plan ((hI.sv.block px (blk_lt HPL.out) hpD).trans HPL.out)) (hK _ _ { hI with p2 := fun _ => rfl })
      refine JSteps.cons (fun V Ld a W hLi hpre hR hI K hK => ?_) ?_
      · have e := (hR.old 5 (by kernel_rfl)).trans (show _ = Value.int .i64 (n : Int) from rfl)
        exact J_move rfl (.tmp 5) rfl (hK _ _ { hI with n2 := fun _ => e })
      refine JSteps.cons (fun V Ld a W hLi hpre hR hI K hK => ?_) ?_
      · have p8 : Ld 8 = true := hpre 8 (List.mem_of_elem_eq_true (by kernel_rfl))
        have p9 : Ld 9 = true := hpre 9 (List.mem_of_elem_eq_true (by kernel_rfl))
        have p10 : Ld 10 = true := hpre 10 (List.mem_of_elem_eq_true (by kernel_rfl))
        have f0 := (hR.ev 8 rfl rfl p8).trans (hI.d2 p8)
        have f1 := (hR.ev 9 rfl rfl p9).trans (hI.p2 p9)
        have f2 := (hR.ev 10 rfl rfl p10).trans (hI.n2 p10)
        obtain ⟨R, hd⟩ := hI.dice
        refine J_call rfl _ _ _ rfl enter_gift (by simp only [List.map_toArray, List.map_cons, List.map_nil, f0, f1, f2]; rfl) (gift_any D R 500000003 2 4 3 n W hd (by omega) (by omega) (by omega)) ?_
        rintro e w' ⟨v, G, R', rfl, hGR, hM, hd', hg⟩
        exact ⟨_, rfl, hK _ _ (hI.oG2 hDW hLi hGR hM hd' hg)⟩
      refine JSteps.cons (fun V Ld a W hLi hpre hR hI K hK => ?_) ?_
      · exact J_alloc rfl _ rfl (al_gift W) (hK _ _ (hI.oA0 hLi))
      refine JSteps.cons (fun V Ld a W hLi hpre hR hI K hK => ?_) ?_
      · exact J_alloc rfl _ rfl (al_gift W) (hK _ _ (hI.oA1 hLi))
      refine JSteps.cons (fun V Ld a W hLi hpre hR hI K hK => ?_) ?_
      · exact J_alloc rfl _ rfl (al_gift W) (hK _ _ (hI.oA2 hLi))
      refine JSteps.cons (fun V Ld a W hLi hpre hR hI K hK => ?_) ?_
      · have p12 : Ld 12 = true := hpre 12 (List.mem_of_elem_eq_true (by kernel_rfl))
        have p3 : Ld 3 = true := hpre 3 (List.mem_of_elem_eq_true (by kernel_rfl))
        obtain ⟨w', hs, hI'⟩ := hI.oS0 hDW p3 p12
        exact J_store rfl _ (.tmp 6) (.tmp 28) rfl (by rw [hR.ev 12 rfl rfl p12, hR.ev 3 rfl rfl p3]; exact hs) (hK _ _ hI')
      refine JSteps.cons (fun V Ld a W hLi hpre hR hI K hK => ?_) ?_
      · have p13 : Ld 13 = true := hpre 13 (List.mem_of_elem_eq_true (by kernel_rfl))
        have p7 : Ld 7 = true := hpre 7 (List.mem_of_elem_eq_true (by kernel_rfl))
        obtain ⟨w', hs, hI'⟩ := hI.oS1 hDW p7 p13
        exact J_store rfl _ (.tmp 7) (.tmp 32) rfl (by rw [hR.ev 13 rfl rfl p13, hR.ev 7 rfl rfl p7]; exact hs) (hK _ _ hI')
      refine JSteps.cons (fun V Ld a W hLi hpre hR hI K hK => ?_) trivial
      · have p14 : Ld 14 = true := hpre 14 (List.mem_of_elem_eq_true (by kernel_rfl))
        have p11 : Ld 11 = true := hpre 11 (List.mem_of_elem_eq_true (by kernel_rfl))
        obtain ⟨w', hs, hI'⟩ := hI.oS2 hDW p11 p14
        exact J_store rfl _ (.tmp 8) (.tmp 36) rfl (by rw [hR.ev 14 rfl rfl p14, hR.ev 11 rfl rfl p11]; exact hs) (hK _ _ hI')
    case refine_3 =>
      intro V Ld w4 hLd hI
      obtain ⟨g1, e12, l1, F1⟩ := hI.f0 (hLd 15 (by decide))
      obtain ⟨g2, e13, l2, F2⟩ := hI.f1 (hLd 16 (by decide))
      obtain ⟨g3, e14, l3, F3⟩ := hI.f2 (hLd 17 (by decide))
      obtain ⟨A1, a1, B1, b1, C1, c1, S1, T1, m1, K1, M1, R1⟩ := F1.open_
      obtain ⟨A2, a2, B2, b2, C2, c2, S2, T2, m2, K2, M2, R2⟩ := F2.open_
      obtain ⟨A3, a3, B3, b3, C3, c3, S3, T3, m3, K3, M3, R3⟩ := F3.open_
      have HB4 := Lib.hid (HE3.out.below.trans (hI.sv.below w.heap.size HE3.out.below.size (fun k _ e => by have e' : k = D := e; omega)))
      replace HPL := Lib.hid (show PlanCell w4 px 500000003 2 4 from (hI.sv.block px (blk_lt HPL.out) hpD).trans HPL.out)
      have HK1 := Lib.hid K1
      have HK2 := Lib.hid K2
      have HK3 := Lib.hid K3
      have HR1 := Lib.hid (R1.mono (Q := fun _ => True) (fun _ _ _ => trivial))
      have HR2 := Lib.hid (R2.mono (Q := fun _ => True) (fun _ _ _ => trivial))
      have HR3 := Lib.hid (R3.mono (Q := fun _ => True) (fun _ _ _ => trivial))
      have HM1 := Lib.hid M1
      have HM2 := Lib.hid M2
      have HM3 := Lib.hid M3
      clear hI hLd K1 K2 K3 R1 R2 R3 M1 M2 M3 F1 F2 F3
      simp only [finL, putL, Act.put, Nat.reduceAdd]
      rw [e12, e13, e14]
      clear e12 e13 e14
      generalize V 0 = q0
      generalize V 1 = q1
      generalize V 2 = q2
      generalize V 3 = q3
      generalize V 4 = q4
      generalize V 5 = q5
      generalize V 6 = q6
      generalize V 7 = q7
      generalize V 8 = q8
      generalize V 9 = q9
      generalize V 10 = q10
      generalize V 11 = q11
      clear V
      simp only [List.setIfInBounds_toArray, List.set_cons_succ, List.set_cons_zero]
      have HN := Lib.hid (show n ≤ 3 by omega)
      clear hn4 HE3
      have HBS := Lib.hid (HB.out.below HB4.out HB.out.1)
      have x10 := HK1.out.c0
      have x11 := HK1.out.c1
      have x12 := HK1.out.c2
      have x13 := HK1.out.c3
      have x14 := HK1.out.c4
      have lx1 := HK1.out.lt
      have x20 := HK2.out.c0
      have x21 := HK2.out.c1
      have x22 := HK2.out.c2
      have x23 := HK2.out.c3
      have x24 := HK2.out.c4
      have lx2 := HK2.out.lt
      have x30 := HK3.out.c0
      have x31 := HK3.out.c1
      have x32 := HK3.out.c2
      have x33 := HK3.out.c3
      have x34 := HK3.out.c4
      have lx3 := HK3.out.lt
      have p0 := HPL.out.c0
      have p1 := HPL.out.c1
      have p2 := HPL.out.c2
      have lp := HPL.out.lt
      go_wp2_with fail
      refine (spoil_any 500000003 2 4 2 3 0 _ _ _ ⟨2, S1, T1, 2, [m1]⟩ ⟨2, S2, T2, 2, [m2]⟩ ⟨3, S3, T3, 3, [m3]⟩ w4 HBS.out (by omega) (by omega) HR1.out HR2.out HR3.out (gm_small HM1.out (by have := HN.out; omega)) (gm_small HM2.out (by have := HN.out; omega)) (gm_small HM3.out (by have := HN.out; omega))).mono ?_
      rintro e w5 ⟨v, rfl, hG5, hb5⟩
      obtain ⟨f1, f2, f3⟩ := sp_old (G := ⟨2, S1, T1, 2, [m1]⟩) (O := ⟨2, S2, T2, 2, [m2]⟩) (X := ⟨3, S3, T3, 3, [m3]⟩) rfl
      rw [f3] at hG5
      rw [f1, f2]
      obtain ⟨A5, a5, B5, b5, C5, c5, rfl, q1, q2, q3⟩ := hG5.open_ HM2.out.bl HM2.out.wl (rfl : [m1].length = 1)
      have HQ1 := Lib.hid (q1.any)
      have HQ2 := Lib.hid (q2.any)
      have HQ3 := Lib.hid q3
      clear f1 f2 f3 hG5 q1 q2 q3
      clear x10 x11 x12 x13 x14 x20 x21 x22 x23 x24 x30 x31 x32 x33 x34 lx1 lx2 lx3 p0 p1 p2 lp
      replace HK1 := Lib.hid (HK1.out.below hb5)
      replace HK2 := Lib.hid (HK2.out.below hb5)
      replace HK3 := Lib.hid (HK3.out.below hb5)
      replace HR1 := Lib.hid (HR1.out.below hb5)
      replace HR2 := Lib.hid (HR2.out.below hb5)
      replace HR3 := Lib.hid (HR3.out.below hb5)
      replace HPL := Lib.hid (HPL.out.below hb5)
      replace HB4 := Lib.hid (below_trans HB4.out hb5)
      replace HBS := Lib.hid (HB.out.below HB4.out HB.out.1)
      clear hb5
      have x10 := HK1.out.c0
      have x11 := HK1.out.c1
      have x12 := HK1.out.c2
      have x13 := HK1.out.c3
      have x14 := HK1.out.c4
      have lx1 := HK1.out.lt
      have x20 := HK2.out.c0
      have x21 := HK2.out.c1
      have x22 := HK2.out.c2
      have x23 := HK2.out.c3
      have x24 := HK2.out.c4
      have lx2 := HK2.out.lt
      have x30 := HK3.out.c0
      have x31 := HK3.out.c1
      have x32 := HK3.out.c2
      have x33 := HK3.out.c3
      have x34 := HK3.out.c4
      have lx3 := HK3.out.lt
      have p0 := HPL.out.c0
      have p1 := HPL.out.c1
      have p2 := HPL.out.c2
      have lp := HPL.out.lt
      go_wp2_with fail
      refine gen_calls fun w6 hw6 => ?_
      have hb6 : Below w5.heap.size w5 w6 := by rw [hw6]; exact below_alloc _ _
      have HKa := Lib.hid (show GiftCell w6 w5.heap.size 2 (.slice A5 n a5) (.slice B5 n b5) 2 (.slice C5 1 c5) from by rw [hw6]; exact GiftCell.new _ _ _ _ _ rfl)
      clear hw6
      clear x10 x11 x12 x13 x14 x20 x21 x22 x23 x24 x30 x31 x32 x33 x34 lx1 lx2 lx3 p0 p1 p2 lp
      replace HK1 := Lib.hid (HK1.out.below hb6)
      replace HK2 := Lib.hid (HK2.out.below hb6)
      replace HK3 := Lib.hid (HK3.out.below hb6)
      replace HR1 := Lib.hid (HR1.out.below hb6)
      replace HR2 := Lib.hid (HR2.out.below hb6)
      replace HR3 := Lib.hid (HR3.out.below hb6)
      replace HPL := Lib.hid (HPL.out.below hb6)
      replace HQ1 := Lib.hid (HQ1.out.below hb6)
      replace HQ2 := Lib.hid (HQ2.out.below hb6)
      replace HB4 := Lib.hid (below_trans HB4.out hb6)
      replace HBS := Lib.hid (HB.out.below HB4.out HB.out.1)
      replace HQ3 := Lib.hid (HQ3.out.keep (Kept.below hb6))
      clear hb6
      generalize w5.heap.size = xa at *
      refine (spoil_any 500000003 2 4 2 5 0 _ _ _ ⟨2, S1, T1, 2, [m1]⟩ ⟨2, S2, T2, 2, [m2]⟩ ⟨3, S3, T3, 3, [m3]⟩ w6 HBS.out (by omega) (by omega) HR1.out HR2.out HR3.out (gm_small HM1.out (by have := HN.out; omega)) (gm_small HM2.out (by have := HN.out; omega)) (gm_small HM3.out (by have := HN.out; omega))).mono ?_
      rintro e w7 ⟨v, rfl, hG7, hb7⟩
      obtain ⟨f1, f2, f3⟩ := sp_cpy (G := ⟨2, S1, T1, 2, [m1]⟩) (O := ⟨2, S2, T2, 2, [m2]⟩) (X := ⟨3, S3, T3, 3, [m3]⟩) rfl
      rw [f3] at hG7
      rw [f1, f2]
      obtain ⟨A7, a7, B7, b7, C7, c7, rfl, q1, q2, q3⟩ := hG7.open_ (n := n) (m := n) (by rw [List.length_map]; exact HM3.out.bl) (by rw [List.length_map]; exact HM3.out.wl) (rfl : [m3].length = 1)
      have HU1 := Lib.hid (q1.any)
      have HU2 := Lib.hid (q2.any)
      have HU3 := Lib.hid q3
      clear f1 f2 f3 hG7 q1 q2 q3
      replace HK1 := Lib.hid (HK1.out.below hb7)
      replace HK2 := Lib.hid (HK2.out.below hb7)
      replace HK3 := Lib.hid (HK3.out.below hb7)
      replace HR1 := Lib.hid (HR1.out.below hb7)
      replace HR2 := Lib.hid (HR2.out.below hb7)
      replace HR3 := Lib.hid (HR3.out.below hb7)
      replace HPL := Lib.hid (HPL.out.below hb7)
      replace HQ1 := Lib.hid (HQ1.out.below hb7)
      replace HQ2 := Lib.hid (HQ2.out.below hb7)
      replace HKa := Lib.hid (HKa.out.below hb7)
      replace HB4 := Lib.hid (below_trans HB4.out hb7)
      replace HBS := Lib.hid (HB.out.below HB4.out HB.out.1)
      replace HQ3 := Lib.hid (HQ3.out.keep (Kept.below hb7))
      clear hb7
      go_upto_region 9 with fail
      refine gen_world fun w8 hw8 => ?_
      have hb8 : Below w7.heap.size w7 w8 := by rw [hw8]; exact below_alloc _ _
      have HKb := Lib.hid (show GiftCell w8 w7.heap.size 2 (.slice A7 n a7) (.slice B7 n b7) 2 (.slice C7 1 c7) from by rw [hw8]; exact GiftCell.new _ _ _ _ _ rfl)
      clear hw8
      replace HK1 := Lib.hid (HK1.out.below hb8)
      replace HK2 := Lib.hid (HK2.out.below hb8)
      replace HK3 := Lib.hid (HK3.out.below hb8)
      replace HR1 := Lib.hid (HR1.out.below hb8)
      replace HR2 := Lib.hid (HR2.out.below hb8)
      replace HR3 := Lib.hid (HR3.out.below hb8)
      replace HPL := Lib.hid (HPL.out.below hb8)
      replace HQ1 := Lib.hid (HQ1.out.below hb8)
      replace HQ2 := Lib.hid (HQ2.out.below hb8)
      replace HKa := Lib.hid (HKa.out.below hb8)
      replace HU1 := Lib.hid (HU1.out.below hb8)
      replace HU2 := Lib.hid (HU2.out.below hb8)
      replace HB4 := Lib.hid (below_trans HB4.out hb8)
      replace HBS := Lib.hid (HB.out.below HB4.out HB.out.1)
      replace HQ3 := Lib.hid (HQ3.out.keep (Kept.below hb8))
      replace HU3 := Lib.hid (HU3.out.keep (Kept.below hb8))
      clear hb8
      generalize w7.heap.size = xb at *
      have ya0 := HKa.out.c0
      have yb0 := HKb.out.c0
      have yb1 := HKb.out.c1
      have yb2 := HKb.out.c2
      have yb4 := HKb.out.c4
      go_wp2_with fail
      clear ya0 yb0 yb1 yb2 yb4
      go_loopw [15] (fun i wr => ∃ k : Nat, k ≤ n ∧ i = .int .i64 k ∧ Below w8.heap.size w8 wr) (fun i _ => n - (intOf i).toNat)
      case atStart => exact ⟨0, Nat.zero_le _, rfl, Below.refl _ _⟩
      case round =>
        obtain ⟨k, hk, rfl, hbr⟩ := hrel
        have HBR := Lib.hid hbr
        by_cases hkn : k < n
        · have i0 : (k : Int) < (n : Int) := by omega
          have i1 : (0 : Int) ≤ (k : Int) := by omega
          have hn3 : n ≤ 3 := HN.out
          obtain ⟨b1', o1', D1, d1, rfl, lt1, -, s10, -, -⟩ := (HU1.out.below HBR.out).one (k := k) (by rw [List.length_map]; exact HM3.out.bl ▸ hkn)
          obtain ⟨b2', o2', D2, d2, rfl, lt2, -, s20, s21, s22⟩ := (HU2.out.below HBR.out).one (k := k) (by rw [List.length_map]; exact HM3.out.wl ▸ hkn)
          obtain ⟨A3', a3', B3', b3', C3', c3', ev, -, r32, -⟩ := HR3.out
          obtain ⟨-, -, -, -, -, -, r33, -⟩ := gift_cell_read (HR3.out.below HBR.out)
          obtain ⟨b3', o3', D3, d3, rfl, lt3, -, -, s31, s32⟩ := r33.one (k := k) (by exact HM3.out.wl ▸ hkn)
          rw [hS_name (by exact HM3.out.bl ▸ hkn)] at s10
          rw [hS_name (by exact HM3.out.wl ▸ hkn)] at s20
          rw [vS_name] at s21 s22
          have e1 := (HM3.out.wv k hkn).1
          rw [show (vS T3 k).length = 1 from e1] at s21 s31
          obtain ⟨b4, o4, rfl, lt4, s23⟩ := s22.one (by rw [show (vS T3 k).length = 1 from e1]; omega)
          obtain ⟨b5', o5, rfl, lt5, s33⟩ := s32.one (by rw [show (vS T3 k).length = 1 from e1]; omega)
          generalize nth (vS T3 k) 0 = y at *
          clear ev r32 r33 s22 s32 e1
          have y1 := (HKb.out.below HBR.out).c1
          have y2 := (HKb.out.below HBR.out).c2
          have z2 := (HK3.out.below HBR.out).c2
          clear hbr
          go_wp2_with fail
          go_quiet (fail)
          go_wp2_with fail
          go_roundw
          case rel => exact ⟨k + 1, by omega, by go_num, below_drewN HBR.out _⟩
          case measure => simp [intOf]; omega
        · obtain rfl : n = k := by omega
          have i0 : ¬ (n : Int) < (n : Int) := by omega
          go_wp2_with fail
          clear i0 hkn hk
          refine gen_world fun w0 hw0 => ?_
          have hb0 : Below w8.heap.size w8 w0 := by rw [hw0]; exact HBR.out
          clear hw0 hbr HBR
          have za := HKa.out.below hb0
          have zb := HKb.out.below hb0
          have z1 := HK1.out.below hb0
          have z2 := HK2.out.below hb0
          have z3 := HK3.out.below hb0
          obtain ⟨-, -, -, -, -, r21, r22, -⟩ := gift_cell_read (HR2.out.below hb0)
          obtain ⟨-, -, -, -, -, -, -, r13⟩ := gift_cell_read (HR1.out.below hb0)
          obtain ⟨-, -, -, -, -, -, -, r33⟩ := gift_cell_read (HR3.out.below hb0)
          have HZ21 := Lib.hid r21
          have HZ22 := Lib.hid r22
          have HZ13 := Lib.hid r13
          obtain ⟨vb, vo, rfl, lvb, zvb⟩ := (HU3.out.keep (Kept.below hb0)).one (by simp)
          obtain ⟨wb, wo, rfl, lwb, zwb⟩ := r33.one (by simp)
          replace HQ1 := Lib.hid (HQ1.out.below hb0)
          replace HQ2 := Lib.hid (HQ2.out.below hb0)
          replace HQ3 := Lib.hid (HQ3.out.keep (Kept.below hb0))
          replace HB4 := Lib.hid (below_trans HB4.out hb0)
          replace HBS := Lib.hid (HB.out.below HB4.out HB.out.1)
          have za1 := za.c1
          have za2 := za.c2
          have za3 := za.c3
          have za4 := za.c4
          have lza := za.lt
          have zb4 := zb.c4
          have lzb := zb.lt
          have z13 := z1.c3
          have z14 := z1.c4
          have lz1 := z1.lt
          have z21 := z2.c1
          have z22 := z2.c2
          have lz2 := z2.lt
          have z34 := z3.c4
          have lz3 := z3.lt
          replace zvb : w0.cell? ⟨vb, vo, none⟩ = some (.int .i64 m3) := zvb
          replace zwb : w0.cell? ⟨wb, wo, none⟩ = some (.int .i64 m3) := zwb
          clear r21 r22 r13 r33 za zb z1 z2 z3 hb0 HU1 HU2 HU3 HKa HKb HK1 HK2 HK3 HR1 HR2 HR3 HPL
          refine wp_region_J2 (GI (othPL w0 xa xb g1 g2 g3 n a2 a5 b2 b5 c1 c3 c5 c7 vb vo wb wo A2 A5 B2 B5 C1 C5 m3) (GrS w0)) (by kernel_rfl) (by kernel_rfl) (by kernel_rfl) ?_ ?_ ?_
          case refine_1 => exact fun V => GI.start (GrS.start _ _ _)
          case refine_2 =>
            refine JSteps.cons (fun V Ld a W hLi hpre hR hI K hK => ?_) ?_
            · refine J_call rfl _ _ _ rfl enter_awake42 (by simp only [List.map_toArray, List.map_cons, List.map_nil]) (awake42 W (HBS.out.below hI.st.bl HBS.out.1)) ?_
              rintro e w' ⟨rfl, hb⟩
              exact ⟨_, rfl, hK _ _ (hI.put (R := Bl) hb 0 rfl rfl (hI.st.to hb))⟩
            refine JSteps.cons (fun V Ld a W hLi hpre hR hI K hK => ?_) ?_
            · have p0 : Ld 0 = true := hpre 0 (List.mem_of_elem_eq_true (by kernel_rfl))
              have f0 := (hR.ev 0 rfl rfl p0).trans (hI.val 0 _ rfl p0)
              exact G_move rfl (.tmp 142) rfl f0 (hK _ _ (hI.put0 1 rfl rfl hI.st.up))
            refine JSteps.cons (fun V Ld a W hLi hpre hR hI K hK => ?_) ?_
            · have pg1 : Ld 1 = true := hpre 1 (List.mem_of_elem_eq_true (by kernel_rfl))
              refine G_g (hR.want' 1 rfl rfl rfl pg1 (hI.val 1 _ rfl pg1)) ?_
              have o9 := (hR.old 9 (by kernel_rfl)).trans (show _ = Value.pointer (some ⟨xa, 0, none⟩) from rfl)
              exact J_fieldAddr rfl _ (.tmp 9) 1 rfl (by rw [o9]; go_simp) (hK _ _ (hI.put0 2 rfl rfl hI.st.up))
            refine JSteps.cons (fun V Ld a W hLi hpre hR hI K hK => ?_) ?_
            · have pg1 : Ld 1 = true := hpre 1 (List.mem_of_elem_eq_true (by kernel_rfl))
              refine G_g (hR.want' 1 rfl rfl rfl pg1 (hI.val 1 _ rfl pg1)) ?_
              have p2 : Ld 2 = true := hpre 2 (List.mem_of_elem_eq_true (by kernel_rfl))
              have f2 := (hR.ev 2 rfl rfl p2).trans (hI.val 2 _ rfl p2)
              have c0 := (hI.st.bl.cell lza).trans za1
              exact J_load rfl _ (.tmp 144) rfl (by rw [f2]; go_simp) (hK _ _ (hI.put0 3 rfl rfl hI.st.up))
            refine JSteps.cons (fun V Ld a W hLi hpre hR hI K hK => ?_) ?_
            · have pg1 : Ld 1 = true := hpre 1 (List.mem_of_elem_eq_true (by kernel_rfl))
              refine G_g (hR.want' 1 rfl rfl rfl pg1 (hI.val 1 _ rfl pg1)) ?_
              have o7 := (hR.old 7 (by kernel_rfl)).trans (show _ = Value.pointer (some ⟨g2, 0, none⟩) from rfl)
              exact J_fieldAddr rfl _ (.tmp 7) 1 rfl (by rw [o7]; go_simp) (hK _ _ (hI.put0 4 rfl rfl hI.st.up))
            refine JSteps.cons (fun V Ld a W hLi hpre hR hI K hK => ?_) ?_
            · have pg1 : Ld 1 = true := hpre 1 (List.mem_of_elem_eq_true (by kernel_rfl))
              refine G_g (hR.want' 1 rfl rfl rfl pg1 (hI.val 1 _ rfl pg1)) ?_
              have p4 : Ld 4 = true := hpre 4 (List.mem_of_elem_eq_true (by kernel_rfl))
              have f4 := (hR.ev 4 rfl rfl p4).trans (hI.val 4 _ rfl p4)
              have c0 := (hI.st.bl.cell lz2).trans z21
              exact J_load rfl _ (.tmp 146) rfl (by rw [f4]; go_simp) (hK _ _ (hI.put0 5 rfl rfl hI.st.up))
            refine JSteps.cons (fun V Ld a W hLi hpre hR hI K hK => ?_) ?_
            · have pg1 : Ld 1 = true := hpre 1 (List.mem_of_elem_eq_true (by kernel_rfl))
              refine G_g (hR.want' 1 rfl rfl rfl pg1 (hI.val 1 _ rfl pg1)) ?_
              have p3 : Ld 3 = true := hpre 3 (List.mem_of_elem_eq_true (by kernel_rfl))
              have f3 := (hR.ev 3 rfl rfl p3).trans (hI.val 3 _ rfl p3)
              have p5 : Ld 5 = true := hpre 5 (List.mem_of_elem_eq_true (by kernel_rfl))
              have f5 := (hR.ev 5 rfl rfl p5).trans (hI.val 5 _ rfl p5)
              refine J_call rfl _ _ _ rfl enter_same06 (by simp only [List.map_toArray, List.map_cons, List.map_nil, f3, f5]) (same_self A5 A2 S2 a5 a2 n W (HQ1.out.below hI.st.bl) (HZ21.out.below hI.st.bl) (gm_small HM2.out (by have := HN.out; omega)).b HM2.out.bl (by have := HN.out; omega)) ?_
              rintro e w' ⟨rfl, hb⟩
              exact ⟨_, rfl, hK _ _ (hI.put (R := Bl) hb 6 rfl rfl (hI.st.to hb))⟩
            refine JSteps.cons (fun V Ld a W hLi hpre hR hI K hK => ?_) ?_
            · have p1 : Ld 1 = true := hpre 1 (List.mem_of_elem_eq_true (by kernel_rfl))
              have f1 := (hR.ev 1 rfl rfl p1).trans (hI.val 1 _ rfl p1)
              have p6 : Ld 6 = true := hpre 6 (List.mem_of_elem_eq_true (by kernel_rfl))
              have f6 := (hR.ev 6 rfl rfl p6).trans (hI.val 6 _ rfl p6)
              exact G_pick rfl (.tmp 143) (.tmp 148) (.const (.bool false)) rfl f1 (show _ = _ from f6) (hK _ _ (hI.put0 7 rfl rfl hI.st.up))
            refine JSteps.cons (fun V Ld a W hLi hpre hR hI K hK => ?_) ?_
            · have p7 : Ld 7 = true := hpre 7 (List.mem_of_elem_eq_true (by kernel_rfl))
              have f7 := (hR.ev 7 rfl rfl p7).trans (hI.val 7 _ rfl p7)
              exact G_move rfl (.tmp 149) rfl f7 (hK _ _ (hI.put0 8 rfl rfl hI.st.up))
            refine JSteps.cons (fun V Ld a W hLi hpre hR hI K hK => ?_) ?_
            · have pg8 : Ld 8 = true := hpre 8 (List.mem_of_elem_eq_true (by kernel_rfl))
              refine G_g (hR.want' 8 rfl rfl rfl pg8 (hI.val 8 _ rfl pg8)) ?_
              have o9 := (hR.old 9 (by kernel_rfl)).trans (show _ = Value.pointer (some ⟨xa, 0, none⟩) from rfl)
              exact J_fieldAddr rfl _ (.tmp 9) 2 rfl (by rw [o9]; go_simp) (hK _ _ (hI.put0 9 rfl rfl hI.st.up))
            refine JSteps.cons (fun V Ld a W hLi hpre hR hI K hK => ?_) ?_
            · have pg8 : Ld 8 = true := hpre 8 (List.mem_of_elem_eq_true (by kernel_rfl))
              refine G_g (hR.want' 8 rfl rfl rfl pg8 (hI.val 8 _ rfl pg8)) ?_
              have p9 : Ld 9 = true := hpre 9 (List.mem_of_elem_eq_true (by kernel_rfl))
              have f9 := (hR.ev 9 rfl rfl p9).trans (hI.val 9 _ rfl p9)
              have c0 := (hI.st.bl.cell lza).trans za2
              exact J_load rfl _ (.tmp 151) rfl (by rw [f9]; go_simp) (hK _ _ (hI.put0 10 rfl rfl hI.st.up))
            refine JSteps.cons (fun V Ld a W hLi hpre hR hI K hK => ?_) ?_
            · have pg8 : Ld 8 = true := hpre 8 (List.mem_of_elem_eq_true (by kernel_rfl))
              refine G_g (hR.want' 8 rfl rfl rfl pg8 (hI.val 8 _ rfl pg8)) ?_
              have o7 := (hR.old 7 (by kernel_rfl)).trans (show _ = Value.pointer (some ⟨g2, 0, none⟩) from rfl)
              exact J_fieldAddr rfl _ (.tmp 7) 2 rfl (by rw [o7]; go_simp) (hK _ _ (hI.put0 11 rfl rfl hI.st.up))
            refine JSteps.cons (fun V Ld a W hLi hpre hR hI K hK => ?_) ?_
            · have pg8 : Ld 8 = true := hpre 8 (List.mem_of_elem_eq_true (by kernel_rfl))
              refine G_g (hR.want' 8 rfl rfl rfl pg8 (hI.val 8 _ rfl pg8)) ?_
              have p11 : Ld 11 = true := hpre 11 (List.mem_of_elem_eq_true (by kernel_rfl))
              have f11 := (hR.ev 11 rfl rfl p11).trans (hI.val 11 _ rfl p11)
              have c0 := (hI.st.bl.cell lz2).trans z22
              exact J_load rfl _ (.tmp 153) rfl (by rw [f11]; go_simp) (hK _ _ (hI.put0 12 rfl rfl hI.st.up))
            refine JSteps.cons (fun V Ld a W hLi hpre hR hI K hK => ?_) ?_
            · have pg8 : Ld 8 = true := hpre 8 (List.mem_of_elem_eq_true (by kernel_rfl))
              refine G_g (hR.want' 8 rfl rfl rfl pg8 (hI.val 8 _ rfl pg8)) ?_
              have p10 : Ld 10 = true := hpre 10 (List.mem_of_elem_eq_true (by kernel_rfl))
              have f10 := (hR.ev 10 rfl rfl p10).trans (hI.val 10 _ rfl p10)
              have p12 : Ld 12 = true := hpre 12 (List.mem_of_elem_eq_true (by kernel_rfl))
              have f12 := (hR.ev 12 rfl rfl p12).trans (hI.val 12 _ rfl p12)
              refine J_call rfl _ _ _ rfl enter_same06 (by simp only [List.map_toArray, List.map_cons, List.map_nil, f10, f12]) (same_self B5 B2 T2 b5 b2 n W (HQ2.out.below hI.st.bl) (HZ22.out.below hI.st.bl) (gm_small HM2.out (by have := HN.out; omega)).w HM2.out.wl (by have := HN.out; omega)) ?_
              rintro e w' ⟨rfl, hb⟩
              exact ⟨_, rfl, hK _ _ (hI.put (R := Bl) hb 13 rfl rfl (hI.st.to hb))⟩
            refine JSteps.cons (fun V Ld a W hLi hpre hR hI K hK => ?_) ?_
            · have p8 : Ld 8 = true := hpre 8 (List.mem_of_elem_eq_true (by kernel_rfl))
              have f8 := (hR.ev 8 rfl rfl p8).trans (hI.val 8 _ rfl p8)
              have p13 : Ld 13 = true := hpre 13 (List.mem_of_elem_eq_true (by kernel_rfl))
              have f13 := (hR.ev 13 rfl rfl p13).trans (hI.val 13 _ rfl p13)
              exact G_pick rfl (.tmp 150) (.tmp 155) (.const (.bool false)) rfl f8 (show _ = _ from f13) (hK _ _ (hI.put0 14 rfl rfl hI.st.up))
            refine JSteps.cons (fun V Ld a W hLi hpre hR hI K hK => ?_) ?_
            · have p14 : Ld 14 = true := hpre 14 (List.mem_of_elem_eq_true (by kernel_rfl))
              have f14 := (hR.ev 14 rfl rfl p14).trans (hI.val 14 _ rfl p14)
              exact G_move rfl (.tmp 156) rfl f14 (hK _ _ (hI.put0 15 rfl rfl hI.st.up))
            refine JSteps.cons (fun V Ld a W hLi hpre hR hI K hK => ?_) ?_
            · have pg15 : Ld 15 = true := hpre 15 (List.mem_of_elem_eq_true (by kernel_rfl))
              refine G_g (hR.want' 15 rfl rfl rfl pg15 (hI.val 15 _ rfl pg15)) ?_
              have o9 := (hR.old 9 (by kernel_rfl)).trans (show _ = Value.pointer (some ⟨xa, 0, none⟩) from rfl)
              exact J_fieldAddr rfl _ (.tmp 9) 3 rfl (by rw [o9]; go_simp) (hK _ _ (hI.put0 16 rfl rfl hI.st.up))
            refine JSteps.cons (fun V Ld a W hLi hpre hR hI K hK => ?_) ?_
            · have pg15 : Ld 15 = true := hpre 15 (List.mem_of_elem_eq_true (by kernel_rfl))
              refine G_g (hR.want' 15 rfl rfl rfl pg15 (hI.val 15 _ rfl pg15)) ?_
              have p16 : Ld 16 = true := hpre 16 (List.mem_of_elem_eq_true (by kernel_rfl))
              have f16 := (hR.ev 16 rfl rfl p16).trans (hI.val 16 _ rfl p16)
              have c0 := (hI.st.bl.cell lza).trans za3
              have c1 := (hI.st.bl.cell lza).trans za4
              exact J_load rfl _ (.tmp 158) rfl (by rw [f16]; go_simp) (hK _ _ (hI.put0 17 rfl rfl hI.st.up))
            refine JSteps.cons (fun V Ld a W hLi hpre hR hI K hK => ?_) ?_
            · have pg15 : Ld 15 = true := hpre 15 (List.mem_of_elem_eq_true (by kernel_rfl))
              refine G_g (hR.want' 15 rfl rfl rfl pg15 (hI.val 15 _ rfl pg15)) ?_
              have p17 : Ld 17 = true := hpre 17 (List.mem_of_elem_eq_true (by kernel_rfl))
              have f17 := (hR.ev 17 rfl rfl p17).trans (hI.val 17 _ rfl p17)
              exact J_buildSlice rfl _ 1 _ rfl (by simp only [List.map_toArray, List.map_cons, List.map_nil, f17]; exact bs_share W 2 C5 1 c5) (hK _ _ (hI.put (R := Bl) (below_alloc W _) 18 rfl ⟨_, rfl, hI.st.bl.size, heap_alloc_new _ _⟩ (hI.st.to (below_alloc W _))))
            refine JSteps.cons (fun V Ld a W hLi hpre hR hI K hK => ?_) ?_
            · have pg15 : Ld 15 = true := hpre 15 (List.mem_of_elem_eq_true (by kernel_rfl))
              refine G_g (hR.want' 15 rfl rfl rfl pg15 (hI.val 15 _ rfl pg15)) ?_
              have o6 := (hR.old 6 (by kernel_rfl)).trans (show _ = Value.pointer (some ⟨g1, 0, none⟩) from rfl)
              exact J_fieldAddr rfl _ (.tmp 6) 3 rfl (by rw [o6]; go_simp) (hK _ _ (hI.put0 19 rfl rfl hI.st.up))
            refine JSteps.cons (fun V Ld a W hLi hpre hR hI K hK => ?_) ?_
            · have pg15 : Ld 15 = true := hpre 15 (List.mem_of_elem_eq_true (by kernel_rfl))
              refine G_g (hR.want' 15 rfl rfl rfl pg15 (hI.val 15 _ rfl pg15)) ?_
              have p19 : Ld 19 = true := hpre 19 (List.mem_of_elem_eq_true (by kernel_rfl))
              have f19 := (hR.ev 19 rfl rfl p19).trans (hI.val 19 _ rfl p19)
              have c0 := (hI.st.bl.cell lz1).trans z13
              have c1 := (hI.st.bl.cell lz1).trans z14
              exact J_load rfl _ (.tmp 161) rfl (by rw [f19]; go_simp) (hK _ _ (hI.put0 20 rfl rfl hI.st.up))
            refine JSteps.cons (fun V Ld a W hLi hpre hR hI K hK => ?_) ?_
            · have pg15 : Ld 15 = true := hpre 15 (List.mem_of_elem_eq_true (by kernel_rfl))
              refine G_g (hR.want' 15 rfl rfl rfl pg15 (hI.val 15 _ rfl pg15)) ?_
              have p20 : Ld 20 = true := hpre 20 (List.mem_of_elem_eq_true (by kernel_rfl))
              have f20 := (hR.ev 20 rfl rfl p20).trans (hI.val 20 _ rfl p20)
              exact J_buildSlice rfl _ 1 _ rfl (by simp only [List.map_toArray, List.map_cons, List.map_nil, f20]; exact bs_share W 2 C1 1 c1) (hK _ _ (hI.put (R := Bl) (below_alloc W _) 21 rfl ⟨_, rfl, hI.st.bl.size, heap_alloc_new _ _⟩ (hI.st.to (below_alloc W _))))
            refine JSteps.cons (fun V Ld a W hLi hpre hR hI K hK => ?_) ?_
            · have pg15 : Ld 15 = true := hpre 15 (List.mem_of_elem_eq_true (by kernel_rfl))
              refine G_g (hR.want' 15 rfl rfl rfl pg15 (hI.val 15 _ rfl pg15)) ?_
              have p18 : Ld 18 = true := hpre 18 (List.mem_of_elem_eq_true (by kernel_rfl))
              obtain ⟨ga, ea, la, ha⟩ := hI.val 18 _ rfl p18
              have f18 := (hR.ev 18 rfl rfl p18).trans ea
              have p21 : Ld 21 = true := hpre 21 (List.mem_of_elem_eq_true (by kernel_rfl))
              obtain ⟨gb, eb, lb, hb'⟩ := hI.val 21 _ rfl p21
              have f21 := (hR.ev 21 rfl rfl p21).trans eb
              refine J_call rfl _ _ _ rfl enter_same06 (by simp only [List.map_toArray, List.map_cons, List.map_nil, f18, f21]) (same_one ha hb' (HQ3.out.keep (Kept.below hI.st.bl)) (HZ13.out.keep (Kept.below hI.st.bl))) ?_
              rintro e w' ⟨rfl, hb⟩
              exact ⟨_, rfl, hK _ _ (hI.put (R := Bl) hb 22 rfl rfl (hI.st.to hb))⟩
            refine JSteps.cons (fun V Ld a W hLi hpre hR hI K hK => ?_) ?_
            · have p15 : Ld 15 = true := hpre 15 (List.mem_of_elem_eq_true (by kernel_rfl))
              have f15 := (hR.ev 15 rfl rfl p15).trans (hI.val 15 _ rfl p15)
              have p22 : Ld 22 = true := hpre 22 (List.mem_of_elem_eq_true (by kernel_rfl))
              have f22 := (hR.ev 22 rfl rfl p22).trans (hI.val 22 _ rfl p22)
              exact G_pick rfl (.tmp 157) (.tmp 164) (.const (.bool false)) rfl f15 (show _ = _ from f22) (hK _ _ (hI.put0 23 rfl rfl hI.st.up))
            refine JSteps.cons (fun V Ld a W hLi hpre hR hI K hK => ?_) ?_
            · have p23 : Ld 23 = true := hpre 23 (List.mem_of_elem_eq_true (by kernel_rfl))
              have f23 := (hR.ev 23 rfl rfl p23).trans (hI.val 23 _ rfl p23)
              exact G_move rfl (.tmp 165) rfl f23 (hK _ _ (hI.put0 24 rfl rfl hI.st.up))
            refine JSteps.cons (fun V Ld a W hLi hpre hR hI K hK => ?_) ?_
            · have pg24 : Ld 24 = true := hpre 24 (List.mem_of_elem_eq_true (by kernel_rfl))
              refine G_g (hR.want' 24 rfl rfl rfl pg24 (hI.val 24 _ rfl pg24)) ?_
              have o12 := (hR.old 12 (by kernel_rfl)).trans (show _ = Value.pointer (some ⟨xb, 0, none⟩) from rfl)
              exact J_fieldAddr rfl _ (.tmp 12) 3 rfl (by rw [o12]; go_simp) (hK _ _ (hI.put0 25 rfl rfl hI.st.up))
            refine JSteps.cons (fun V Ld a W hLi hpre hR hI K hK => ?_) ?_
            · have pg24 : Ld 24 = true := hpre 24 (List.mem_of_elem_eq_true (by kernel_rfl))
              refine G_g (hR.want' 24 rfl rfl rfl pg24 (hI.val 24 _ rfl pg24)) ?_
              have p25 : Ld 25 = true := hpre 25 (List.mem_of_elem_eq_true (by kernel_rfl))
              have f25 := (hR.ev 25 rfl rfl p25).trans (hI.val 25 _ rfl p25)
              exact J_fieldAddr rfl _ (.tmp 167) 1 rfl (by rw [f25]; go_simp) (hK _ _ (hI.put0 26 rfl rfl hI.st.up))
            refine JSteps.cons (fun V Ld a W hLi hpre hR hI K hK => ?_) ?_
            · have pg24 : Ld 24 = true := hpre 24 (List.mem_of_elem_eq_true (by kernel_rfl))
              refine G_g (hR.want' 24 rfl rfl rfl pg24 (hI.val 24 _ rfl pg24)) ?_
              have p26 : Ld 26 = true := hpre 26 (List.mem_of_elem_eq_true (by kernel_rfl))
              have f26 := (hR.ev 26 rfl rfl p26).trans (hI.val 26 _ rfl p26)
              have c0 := (hI.st.bl.cell lzb).trans zb4
              exact J_load rfl _ (.tmp 168) rfl (by rw [f26]; go_simp) (hK _ _ (hI.put0 27 rfl rfl hI.st.up))
            refine JSteps.cons (fun V Ld a W hLi hpre hR hI K hK => ?_) ?_
            · have pg24 : Ld 24 = true := hpre 24 (List.mem_of_elem_eq_true (by kernel_rfl))
              refine G_g (hR.want' 24 rfl rfl rfl pg24 (hI.val 24 _ rfl pg24)) ?_
              have p27 : Ld 27 = true := hpre 27 (List.mem_of_elem_eq_true (by kernel_rfl))
              have f27 := (hR.ev 27 rfl rfl p27).trans (hI.val 27 _ rfl p27)
              exact J_indexAddr rfl _ (.tmp 169) (.const (.int .i64 0)) rfl (by rw [f27]; go_simp) (hK _ _ (hI.put0 28 rfl rfl hI.st.up))
            refine JSteps.cons (fun V Ld a W hLi hpre hR hI K hK => ?_) ?_
            · have pg24 : Ld 24 = true := hpre 24 (List.mem_of_elem_eq_true (by kernel_rfl))
              refine G_g (hR.want' 24 rfl rfl rfl pg24 (hI.val 24 _ rfl pg24)) ?_
              have p28 : Ld 28 = true := hpre 28 (List.mem_of_elem_eq_true (by kernel_rfl))
              have f28 := (hR.ev 28 rfl rfl p28).trans (hI.val 28 _ rfl p28)
              have c0 := (hI.st.bl.cell lvb).trans zvb
              exact J_load rfl _ (.tmp 170) rfl (by rw [f28]; go_simp) (hK _ _ (hI.put0 29 rfl rfl hI.st.up))
            refine JSteps.cons (fun V Ld a W hLi hpre hR hI K hK => ?_) ?_
            · have pg24 : Ld 24 = true := hpre 24 (List.mem_of_elem_eq_true (by kernel_rfl))
              refine G_g (hR.want' 24 rfl rfl rfl pg24 (hI.val 24 _ rfl pg24)) ?_
              have o8 := (hR.old 8 (by kernel_rfl)).trans (show _ = Value.pointer (some ⟨g3, 0, none⟩) from rfl)
              exact J_fieldAddr rfl _ (.tmp 8) 3 rfl (by rw [o8]; go_simp) (hK _ _ (hI.put0 30 rfl rfl hI.st.up))
            refine JSteps.cons (fun V Ld a W hLi hpre hR hI K hK => ?_) ?_
            · have pg24 : Ld 24 = true := hpre 24 (List.mem_of_elem_eq_true (by kernel_rfl))
              refine G_g (hR.want' 24 rfl rfl rfl pg24 (hI.val 24 _ rfl pg24)) ?_
              have p30 : Ld 30 = true := hpre 30 (List.mem_of_elem_eq_true (by kernel_rfl))
              have f30 := (hR.ev 30 rfl rfl p30).trans (hI.val 30 _ rfl p30)
              exact J_fieldAddr rfl _ (.tmp 172) 1 rfl (by rw [f30]; go_simp) (hK _ _ (hI.put0 31 rfl rfl hI.st.up))
            refine JSteps.cons (fun V Ld a W hLi hpre hR hI K hK => ?_) ?_
            · have pg24 : Ld 24 = true := hpre 24 (List.mem_of_elem_eq_true (by kernel_rfl))
              refine G_g (hR.want' 24 rfl rfl rfl pg24 (hI.val 24 _ rfl pg24)) ?_
              have p31 : Ld 31 = true := hpre 31 (List.mem_of_elem_eq_true (by kernel_rfl))
              have f31 := (hR.ev 31 rfl rfl p31).trans (hI.val 31 _ rfl p31)
              have c0 := (hI.st.bl.cell lz3).trans z34
              exact J_load rfl _ (.tmp 173) rfl (by rw [f31]; go_simp) (hK _ _ (hI.put0 32 rfl rfl hI.st.up))
            refine JSteps.cons (fun V Ld a W hLi hpre hR hI K hK => ?_) ?_
            · have pg24 : Ld 24 = true := hpre 24 (List.mem_of_elem_eq_true (by kernel_rfl))
              refine G_g (hR.want' 24 rfl rfl rfl pg24 (hI.val 24 _ rfl pg24)) ?_
              have p32 : Ld 32 = true := hpre 32 (List.mem_of_elem_eq_true (by kernel_rfl))
              have f32 := (hR.ev 32 rfl rfl p32).trans (hI.val 32 _ rfl p32)
              exact J_indexAddr rfl _ (.tmp 174) (.const (.int .i64 0)) rfl (by rw [f32]; go_simp) (hK _ _ (hI.put0 33 rfl rfl hI.st.up))
            refine JSteps.cons (fun V Ld a W hLi hpre hR hI K hK => ?_) ?_
            · have pg24 : Ld 24 = true := hpre 24 (List.mem_of_elem_eq_true (by kernel_rfl))
              refine G_g (hR.want' 24 rfl rfl rfl pg24 (hI.val 24 _ rfl pg24)) ?_
              have p33 : Ld 33 = true := hpre 33 (List.mem_of_elem_eq_true (by kernel_rfl))
              have f33 := (hR.ev 33 rfl rfl p33).trans (hI.val 33 _ rfl p33)
              have c0 := (hI.st.bl.cell lwb).trans zwb
              exact J_load rfl _ (.tmp 175) rfl (by rw [f33]; go_simp) (hK _ _ (hI.put0 34 rfl rfl hI.st.up))
            refine JSteps.cons (fun V Ld a W hLi hpre hR hI K hK => ?_) ?_
            · have pg24 : Ld 24 = true := hpre 24 (List.mem_of_elem_eq_true (by kernel_rfl))
              refine G_g (hR.want' 24 rfl rfl rfl pg24 (hI.val 24 _ rfl pg24)) ?_
              have p29 : Ld 29 = true := hpre 29 (List.mem_of_elem_eq_true (by kernel_rfl))
              have f29 := (hR.ev 29 rfl rfl p29).trans (hI.val 29 _ rfl p29)
              have p34 : Ld 34 = true := hpre 34 (List.mem_of_elem_eq_true (by kernel_rfl))
              have f34 := (hR.ev 34 rfl rfl p34).trans (hI.val 34 _ rfl p34)
              exact J_binOp rfl .eql _ (.tmp 171) (.tmp 176) _ rfl (by rw [f29, f34]; go_simp) (hK _ _ (hI.put0 35 rfl rfl hI.st.up))
            refine JSteps.cons (fun V Ld a W hLi hpre hR hI K hK => ?_) ?_
            · have p24 : Ld 24 = true := hpre 24 (List.mem_of_elem_eq_true (by kernel_rfl))
              have f24 := (hR.ev 24 rfl rfl p24).trans (hI.val 24 _ rfl p24)
              have p35 : Ld 35 = true := hpre 35 (List.mem_of_elem_eq_true (by kernel_rfl))
              have f35 := (hR.ev 35 rfl rfl p35).trans (hI.val 35 _ rfl p35)
              exact G_pick rfl (.tmp 166) (.tmp 177) (.const (.bool false)) rfl f24 (show _ = _ from f35) (hK _ _ (hI.put0 36 rfl rfl hI.st.up))
            refine JSteps.cons (fun V Ld a W hLi hpre hR hI K hK => ?_) trivial
            · have p36 : Ld 36 = true := hpre 36 (List.mem_of_elem_eq_true (by kernel_rfl))
              have f36 := (hR.ev 36 rfl rfl p36).trans (hI.val 36 _ rfl p36)
              exact G_assign rfl (.tmp 178) rfl f36 (hK _ _ (hI.put0 37 rfl rfl hI.st.up))
          case refine_3 =>
            intro V Ld w9 hLd hI
            have e1 := hI.val 37 _ rfl (hLd 37 (by decide))
            have hb9 := below_trans HB4.out hI.st.bl
            replace e1 : V 37 = .bool true := e1
            clear hI hLd
            simp only [finL, putL, Act.put, Nat.reduceAdd]
            rw [e1]
            simp only [List.setIfInBounds_toArray, List.set_cons_succ, List.set_cons_zero]
            go_wp2_with fail
            go_ret
            exact RetB.bool rfl hb9
  · have hL := light_any A0 L0.length c0 w
    rw [decide_eq_false hlight] at hL
    have HLt := Lib.hid hL
    clear hL
    go_enter Tryd.func6, Tryd.ntmps6
    go_wp2_with fail
    refine ret_pure HLt.out ?_
    go_wp2_with fail
    refine ret_below (awake42 _ HB.out) ?_
    intro w1 hb1
    go_wp2_with fail
    go_ret
    exact RetB.bool rfl hb1
end Go.Proofs.YtjckpammcgeloaaDoor
namespace Go.Proofs.YtjckpammcgeloaaDoor
open Go.RowKit

/-- How many of the first k numbers differ. -/
def difC (L M : List Int) : Nat → Nat
  | 0 => 0
  | k + 1 => difC L M k + if nth L k = nth M k then 0 else 1
def cntC (X Y : List Shr) : Nat → Nat
  | 0 => 0
  | i + 1 => cntC X Y i + difC (vS X i) (vS Y i) (vS X i).length
def allC (X : List Shr) : Nat → Nat
  | 0 => 0
  | i + 1 => allC X i + (vS X i).length
theorem difC_le (L M : List Int) : ∀ k, difC L M k ≤ k
  | 0 => Nat.le_refl _
  | k + 1 => by
    have := difC_le L M k
    unfold difC
    split <;> omega
theorem cntC_le {X Y : List Shr} {B : Nat} : ∀ k, (∀ i, i < k → (vS X i).length ≤ B) → cntC X Y k ≤ k * B
  | 0, _ => by simp [cntC]
  | k + 1, h => by
    have h1 := cntC_le (X := X) (Y := Y) k (fun i hi => h i (by omega))
    have h2 := difC_le (vS X k) (vS Y k) (vS X k).length
    have h3 := h k (by omega)
    unfold cntC
    rw [Nat.succ_mul]; omega
theorem allC_le {X : List Shr} {B : Nat} : ∀ k, (∀ i, i < k → (vS X i).length ≤ B) → allC X k ≤ k * B
  | 0, _ => by simp [allC]
  | k + 1, h => by
    have h1 := allC_le (X := X) k (fun i hi => h i (by omega))
    have h3 := h k (by omega)
    unfold allC
    rw [Nat.succ_mul]; omega
/-- Two gifts of one form; the values of the first are elements. -/
structure FormG (p : Nat) (G K : GiftD) : Prop where
  h : G.h = K.h
  bl : G.bx.length = K.bx.length
  wl : G.wh.length = K.wh.length
  at_ : ∀ i, i < (allS G).length → hS (allS G) i = hS (allS K) i ∧ (vS (allS G) i).length = (vS (allS K) i).length ∧ ElsOK p (vS (allS G) i)
theorem allS_len (G : GiftD) : (allS G).length = G.bx.length + G.wh.length + 1 := by simp [allS]; omega
theorem allS_map {f : Shr → Shr} (G : GiftD) : allS (mapG f G) = (allS G).map f := by simp [allS, mapG]
theorem vS_shS {p : Nat} {c : Int} {S : List Shr} {i : Nat} : vS (S.map (shS p c)) i = shvL p c (vS S i) := by
  rcases Nat.lt_or_ge i S.length with h | h
  · simp [vS, shS, List.getD_eq_getElem?_getD, List.getElem?_map, List.getElem?_eq_getElem h]
  · simp [vS, shvL, List.getD_eq_getElem?_getD, List.getElem?_eq_none h]
theorem hS_shS {p : Nat} {c : Int} {S : List Shr} {i : Nat} : hS (S.map (shS p c)) i = hS S i := by
  rcases Nat.lt_or_ge i S.length with h | h
  · simp [hS, shS, List.getD_eq_getElem?_getD, List.getElem?_map, List.getElem?_eq_getElem h]
  · simp [hS, List.getD_eq_getElem?_getD, List.getElem?_eq_none h]
theorem shv_ne {p : Nat} {c x : Int} (hc : 1 ≤ c) (hc2 : c < p) (h0 : 0 ≤ x) (h1 : x < p) : shv p c x ≠ x := by
  unfold shv faI emI
  rw [Int.emod_eq_of_lt h0 h1]
  intro e
  rcases Int.lt_or_le (x + c) p with h | h
  · rw [Int.emod_eq_of_lt (by omega) h] at e; omega
  · have e2 : (x + c) % p = x + c - p := by
      rw [← Int.sub_emod_right]
      exact Int.emod_eq_of_lt (by omega) (by omega)
    rw [e2] at e; omega
theorem nth_shvL {p : Nat} {c : Int} {L : List Int} {j : Nat} (h : j < L.length) : nth (shvL p c L) j = shv p c (nth L j) := by
  rw [nth_eq (by rw [shvL_len]; exact h), nth_eq h]; simp [shvL]
theorem els_nth {p : Nat} {L : List Int} (h : ElsOK p L) {j : Nat} (hj : j < L.length) : 0 ≤ nth L j ∧ nth L j < p := by
  rw [nth_eq hj]; exact h _ (List.getElem_mem hj)
theorem difC_all {p : Nat} {c : Int} {L : List Int} (hc : 1 ≤ c) (hc2 : c < p) (hL : ElsOK p L) : ∀ k, k ≤ L.length → difC (shvL p c L) L k = k
  | 0, _ => rfl
  | k + 1, hk => by
    unfold difC
    rw [difC_all hc hc2 hL k (by omega), nth_shvL (by omega)]
    obtain ⟨a, b⟩ := els_nth hL (j := k) (by omega)
    rw [if_neg (shv_ne hc hc2 a b)]
theorem difC_same (L : List Int) : ∀ k, difC L L k = 0
  | 0 => rfl
  | k + 1 => by unfold difC; rw [difC_same L k, if_pos rfl]
theorem nth_set_ne {L : List Int} {y : Int} {k : Nat} (h : 0 < k) : nth (L.set 0 y) k = nth L k := by
  simp only [nth, List.getD_eq_getElem?_getD]
  rw [List.getElem?_set_ne (by omega)]
theorem nth_set_0 {L : List Int} {y : Int} (h : 0 < L.length) : nth (L.set 0 y) 0 = y := by
  simp only [nth, List.getD_eq_getElem?_getD]
  rw [List.getElem?_set_self h]; rfl
theorem difC_set {L : List Int} {y : Int} (h0 : 0 < L.length) (hy : y ≠ nth L 0) : ∀ k, 0 < k → difC (L.set 0 y) L k = 1
  | 1, _ => by simp only [difC]; rw [nth_set_0 h0, if_neg hy]
  | k + 2, _ => by
    have := difC_set h0 hy (k + 1) (by omega)
    rw [difC, this, nth_set_ne (by omega), if_pos rfl]
theorem cntC_all {p : Nat} {c : Int} {S : List Shr} (hc : 1 ≤ c) (hc2 : c < p) : ∀ k, (∀ i, i < k → ElsOK p (vS S i)) → cntC (S.map (shS p c)) S k = allC (S.map (shS p c)) k
  | 0, _ => rfl
  | k + 1, h => by
    unfold cntC allC
    rw [cntC_all hc hc2 k (fun i hi => h i (by omega)), vS_shS, shvL_len, difC_all hc hc2 (h k (by omega)) _ (Nat.le_refl _)]
theorem cntC_same (S : List Shr) : ∀ k, cntC S S k = 0
  | 0 => rfl
  | k + 1 => by unfold cntC; rw [cntC_same S k, difC_same]
theorem vS_set_same {S : List Shr} {k : Nat} {y : Shr} (h : k < S.length) : vS (S.set k y) k = y.2 := by
  simp only [vS, List.getD_eq_getElem?_getD]; rw [List.getElem?_set_self h]; rfl
theorem vS_set_ne {S : List Shr} {k i : Nat} {y : Shr} (h : k ≠ i) : vS (S.set k y) i = vS S i := by
  simp only [vS, List.getD_eq_getElem?_getD]; rw [List.getElem?_set_ne h]
theorem hS_set_same {S : List Shr} {k : Nat} {y : Shr} (h : k < S.length) : hS (S.set k y) k = y.1 := by
  simp only [hS, List.getD_eq_getElem?_getD]; rw [List.getElem?_set_self h]; rfl
theorem hS_set_ne {S : List Shr} {k i : Nat} {y : Shr} (h : k ≠ i) : hS (S.set k y) i = hS S i := by
  simp only [hS, List.getD_eq_getElem?_getD]; rw [List.getElem?_set_ne h]
theorem cntC_set0 {S : List Shr} {k : Nat} {y : Shr} : ∀ n, n ≤ k → cntC (S.set k y) S n = 0
  | 0, _ => rfl
  | n + 1, h => by unfold cntC; rw [cntC_set0 n (by omega), vS_set_ne (by omega), difC_same]
theorem cntC_set {S : List Shr} {k : Nat} {y : Shr} (hk : k < S.length) (hd : difC y.2 (vS S k) y.2.length = 1) : ∀ n, k < n → cntC (S.set k y) S n = 1
  | n + 1, h => by
    unfold cntC
    rcases Nat.lt_or_ge k n with h1 | h1
    · rw [cntC_set hk hd n h1, vS_set_ne (by omega), difC_same]
    · obtain rfl : k = n := by omega
      rw [cntC_set0 k (Nat.le_refl _), vS_set_same hk, hd]
theorem gm_all {p n : Nat} {h : Int} {G : GiftD} (H : GiftM p h n G) : ∀ i, i < (allS G).length → ElsOK p (vS (allS G) i) := fun i hi => by
  rw [allS_len] at hi
  have e1 := H.bl
  have e2 := H.wl
  unfold allS
  rcases Nat.lt_or_ge i G.bx.length with h1 | h1
  · rw [vS_left (by simp; omega), vS_left h1]; exact (H.bv i (by omega)).2
  · rcases Nat.lt_or_ge i (G.bx.length + G.wh.length) with h2 | h2
    · rw [vS_left (by simp; omega), vS_right h1]; exact (H.wv _ (by omega)).2
    · rw [vS_right (by simp; omega)]
      have : i - (G.bx ++ G.wh).length = 0 := by simp; omega
      rw [this]; exact H.kv.2
theorem form_all {p : Nat} {b : Int} {G : GiftD} (hp : 2 ≤ p) : FormG p (mapG (shS p (moreI p b)) G) G := by
  refine ⟨rfl, by simp [mapG], by simp [mapG], fun i hi => ?_⟩
  rw [allS_map] at hi ⊢
  rw [hS_shS, vS_shS, shvL_len]
  refine ⟨rfl, rfl, fun x hx => ?_⟩
  unfold shvL at hx
  obtain ⟨y, -, rfl⟩ := List.mem_map.1 hx
  exact shv_rng (by omega) _ _
theorem more_rng {p : Nat} (hp : 2 ≤ p) (b : Int) : 1 ≤ moreI p b ∧ moreI p b < p := by
  rw [moreI_eq hp]
  obtain ⟨h1, h2⟩ := plI_rng (m := (p : Int) - 1) (by omega) b
  omega
theorem count_all {p n : Nat} {h b : Int} {G : GiftD} (H : GiftM p h n G) (hp : 2 ≤ p) : cntC (allS (mapG (shS p (moreI p b)) G)) (allS G) (allS (mapG (shS p (moreI p b)) G)).length = allC (allS (mapG (shS p (moreI p b)) G)) (allS (mapG (shS p (moreI p b)) G)).length := by
  obtain ⟨h1, h2⟩ := more_rng hp b
  rw [allS_map]
  exact cntC_all h1 h2 _ (fun i hi => gm_all H i (by simpa using hi))
theorem allS_val {p : Nat} {b : Int} {G : GiftD} {k : Nat} (hk : plI b G.bx.length = (k : Int)) (hl : k < G.bx.length) : allS (valG p b G) = (allS G).set k (hS (allS G) k, fstV p (vS (allS G) k)) := by
  have e1 : hS (allS G) k = hS G.bx k := by unfold allS; rw [hS_app, if_pos (by simp; omega), hS_app, if_pos hl]
  have e2 : vS (allS G) k = vS G.bx k := by unfold allS; rw [vS_left (by simp; omega), vS_left hl]
  rw [e1, e2]
  show (valB p b G.bx ++ G.wh ++ [(G.kh, G.kv)]) = _
  rw [valB_at hk]
  unfold allS
  rw [List.set_append_left _ _ (by simp; omega), List.set_append_left _ _ hl]
theorem fst_els {p : Nat} {L : List Int} (hp : 1 ≤ p) (h : ElsOK p L) : ElsOK p (fstV p L) := fun x hx => by
  unfold fstV at hx
  rcases List.mem_or_eq_of_mem_set hx with hx | rfl
  · exact h x hx
  · exact shv_rng hp _ _
theorem pl_nat {b : Int} {m : Nat} (hm : 0 < m) : ∃ k : Nat, plI b m = (k : Int) ∧ k < m := by
  obtain ⟨h1, h2⟩ := plI_rng (m := (m : Int)) (by omega) b
  exact ⟨(plI b m).toNat, by omega, by omega⟩
theorem form_val {p n : Nat} {h b : Int} {G : GiftD} (H : GiftM p h n G) (hp : 2 ≤ p) : FormG p (valG p b G) G := by
  refine ⟨rfl, valB_len _ _ _, rfl, fun i hi => ?_⟩
  rcases Nat.eq_zero_or_pos G.bx.length with h0 | h0
  · have e : valG p b G = G := by
      obtain ⟨a1, a2, a3, a4, a5⟩ := G
      show (⟨a1, valB p b a2, a3, a4, a5⟩ : GiftD) = _
      rw [valB_nil p b h0]
    rw [e] at hi ⊢
    exact ⟨rfl, rfl, gm_all H i hi⟩
  · obtain ⟨k, hk, hl⟩ := pl_nat (b := b) h0
    have hka : k < (allS G).length := by rw [allS_len]; omega
    rw [allS_val hk hl] at hi ⊢
    rw [List.length_set] at hi
    by_cases hik : k = i
    · subst hik
      rw [hS_set_same hka, vS_set_same hka]
      exact ⟨rfl, fstV_len _ _, fst_els (by omega) (gm_all H k hka)⟩
    · rw [hS_set_ne hik, vS_set_ne hik]
      exact ⟨rfl, rfl, gm_all H i hi⟩
theorem count_val {p n : Nat} {h b : Int} {G : GiftD} (H : GiftM p h n G) (hp : 2 ≤ p) : cntC (allS (valG p b G)) (allS G) (allS (valG p b G)).length = if 0 < n then 1 else 0 := by
  rcases Nat.eq_zero_or_pos G.bx.length with h0 | h0
  · have e : valG p b G = G := by
      obtain ⟨a1, a2, a3, a4, a5⟩ := G
      show (⟨a1, valB p b a2, a3, a4, a5⟩ : GiftD) = _
      rw [valB_nil p b h0]
    rw [e, cntC_same, if_neg (by have := H.bl; omega)]
  · obtain ⟨k, hk, hl⟩ := pl_nat (b := b) h0
    have hka : k < (allS G).length := by rw [allS_len]; omega
    rw [if_pos (by have := H.bl; omega), allS_val hk hl, List.length_set]
    refine cntC_set hka ?_ _ hka
    have e2 : vS (allS G) k = vS G.bx k := by unfold allS; rw [vS_left (by simp; omega), vS_left hl]
    obtain ⟨q1, q2⟩ := H.bv k (by have := H.bl; omega)
    rw [e2]
    show difC (fstV p (vS G.bx k)) (vS G.bx k) (fstV p (vS G.bx k)).length = 1
    rw [fstV_len]
    obtain ⟨r1, r2⟩ := els_nth q2 (j := 0) (by omega)
    exact difC_set (by omega) (shv_ne (by omega) (by omega) r1 r2) _ (by omega)
end Go.Proofs.YtjckpammcgeloaaDoor
namespace Go.Proofs.YtjckpammcgeloaaDoor
open Go.RowKit

theorem CatV.none (B : Nat) (w : World) : CatV B w (.slice none 0 0) [] := CatV.nil ⟨by simp [flatH], .inl ⟨rfl, rfl⟩⟩
theorem ShP.kept {B : Nat} {w w' : World} {A : Option Addr} {c : Nat} {S : List Shr} (h : ShP (fun b => b < B) w A c S) (hb : Below B w w') : ShP (fun b => b < B) w' A c S := h.keep (Kept.app hb)
theorem CatV.lt {B : Nat} {w : World} {v : Value} {U : List Shr} (h : CatV B w v U) {k : Nat} (hk : v.ownBlock = some k) : B ≤ k ∧ k < w.heap.size := by
  obtain ⟨H, h1, -⟩ := h
  exact World.ownsRow.lt h1 k hk
theorem CatV.stay {B : Nat} {w w' : World} {v : Value} {U : List Shr} (h : CatV B w v U) (hb : Below w.heap.size w w') (hB : B ≤ w.heap.size) : CatV B w' v U := by
  obtain ⟨H, h1, h2, h3⟩ := h
  refine ⟨H, own_below h1 hb, h2, fun k hk => ?_⟩
  obtain ⟨e1, C, c, e2, e3⟩ := h3 k hk
  exact ⟨e1, C, c, e2, e3.keep (Kept.app (hb.mono hB))⟩
/-- append of a list of shares, in a region that draws. -/
theorem J_app_cat {ops : Array Oper} {o : Oper} {a : Act} {K : Act → World → Prop} {Q : Exit → Act → World → Prop} {X : Prop} (hgd : o.guard = none) (s x : Operand)
    (ho : o.op = .call { callee := .builtin .append, args := #[s, x], argTypes := #[33, 33] })
    {B : Nat} {w : World} {v : Value} {U T : List Shr} {A : Option Addr} {n c : Nat} (hs : a.eval s = v) (h : CatV B w v U) (hx : a.eval x = .slice A n c) (hn : n = T.length) (hT : ShP (fun b => b < B) w A c T) (hl : U.length ≤ 500000) (hl2 : T.length ≤ 500000) (hB : B ≤ w.heap.size)
    (hK : ∀ v' w', CatV B w' v' (U ++ T) → w.grownBy w' v.ownBlock → (v'.ownBlock = v.ownBlock ∨ v'.ownBlock = some w.heap.size) → K (a.put o.dst v') w') :
    if Region.wanted o (yielded ops a.tmps) = true then Oper.wp Tryd.prog o a w K Q else X := by
  subst hn
  obtain ⟨i0, hi, hz0, hz1, hz2⟩ := info_parts info_share
  obtain ⟨H, h1, h2, h3⟩ := h
  rcases A with _ | ad
  · have hc := hT.ok.nil rfl
    have : T = [] := List.eq_nil_of_length_eq_zero (by have := hT.ok.len; omega)
    subst this
    subst hc
    have hrun := run_append_owned_none (P := Tryd.prog) (w := w) B 33 o.type 35 i0 2 Tryd.underlying33 hi v H.length (flatH H) h1
    refine J_val hgd (v := v) (w' := w) ?_ (hK v w (by rw [List.append_nil]; exact ⟨H, h1, h2, h3⟩) ⟨rfl, rfl, rfl, Nat.le_refl _, fun _ _ _ => rfl⟩ (.inl rfl))
    simp only [execOp, ho, resolve, invoke, builtin, Sem.run_bind, Sem.run_pure, Result.andThen_ok, List.map_toArray, List.map_cons, List.map_nil, hs, hx]
    simp only [List.length_nil, hrun, Result.andThen_ok]
  · obtain ⟨H', g1, g2, g3⟩ := hT.flat
    obtain ⟨v', w', hrun, q2, q3, -, q5⟩ := run_append_own_at (P := Tryd.prog) w B 33 o.type 35 i0 _ 2 32 Tryd.underlying33 hi hz0 hz1 hz2 rfl (by omega) v H.length (flatH H) h1 ad T.length c (flatH H') (by rw [flatH_len, g1]) g3 (flatH_one H' (fun k hk => by obtain ⟨-, C, c', e, -⟩ := g2 k (by omega); rw [e]; rfl)) (by unfold maxLen; omega) (by omega) hB
    have hb : Below B w w' := (Below.refl _ _).grown q3 hB (fun k hk => (World.ownsRow.lt h1 k hk).1)
    have hown : HvOwn w' B v' (H ++ H') := by unfold HvOwn; rw [List.length_append, flatH_append, g1]; exact q2
    have kp : ∀ {C : Option Addr} {c : Nat} {L : List Int}, IntsP (fun b => b < B) w C c L → IntsP (fun b => b < B) w' C c L := fun hI => hI.keep (Kept.app hb)
    refine J_val hgd (v := v') (w' := w') ?_ (hK v' w' ⟨H ++ H', hown, by simp [h2, g1], fun k hk => ?_⟩ q3 q5)
    · simp only [execOp, ho, resolve, invoke, builtin, Sem.run_bind, Sem.run_pure, Result.andThen_ok, List.map_toArray, List.map_cons, List.map_nil, hs, hx, hrun]
    · rcases Nat.lt_or_ge k U.length with hk1 | hk1
      · obtain ⟨e1, C, c', e2, e3⟩ := h3 k hk1
        rw [hvAt_append (by omega), (hS_append hk1).1, (hS_append hk1).2]
        exact ⟨e1, C, c', e2, kp e3⟩
      · have hk2 : k - U.length < T.length := by simp at hk; omega
        obtain ⟨e1, C, c', e2, e3⟩ := g2 (k - U.length) hk2
        have q1 : hvAt (H ++ H') k = hvAt H' (k - U.length) := by
          simp only [hvAt, List.getD_eq_getElem?_getD]
          rw [List.getElem?_append_right (by omega), h2]
        have q4 : hS (U ++ T) k = hS T (k - U.length) ∧ vS (U ++ T) k = vS T (k - U.length) := by
          simp only [hS, vS, List.getD_eq_getElem?_getD]
          rw [List.getElem?_append_right hk1]
          exact ⟨rfl, rfl⟩
        rw [q1, q4.1, q4.2]
        exact ⟨e1, C, c', e2, kp e3⟩
/-- Three lists become one: what holds under way. -/
structure CtS (W0 : World) (S T : List Shr) (y : Int) (C : Option Addr) (l c : Nat) (M : List Int) (V : Nat → Value) (L : Nat → Bool) (w : World) : Prop where
  sv : Below W0.heap.size W0 w
  v2 : L 2 = true → L 5 = false → CatV W0.heap.size w (V 2) S
  v5 : L 5 = true → L 9 = false → CatV W0.heap.size w (V 5) (S ++ T)
  v8 : L 8 = true → L 9 = false → ∃ g, V 8 = .slice (some ⟨g, 0, none⟩) 1 1 ∧ g < w.heap.size ∧ w.heap[g]? = some (.cells #[.int .i64 y, .slice C l c] 35 (0, 0)) ∧ (L 2 = true → L 5 = false → (V 2).ownBlock ≠ some g) ∧ (L 5 = true → (V 5).ownBlock ≠ some g)
  v9 : L 9 = true → CatV W0.heap.size w (V 9) (S ++ T ++ [(y, M)])
  v10 : L 10 = true → L 9 = true ∧ V 10 = V 9
  d5 : L 5 = true → L 2 = true
  d9 : L 9 = true → L 5 = true
section
variable {W0 w w' : World} {S T : List Shr} {y : Int} {C : Option Addr} {l c : Nat} {M : List Int} {V : Nat → Value} {L : Nat → Bool}
theorem CtS.start (V : Nat → Value) : CtS W0 S T y C l c M V (fun _ => false) W0.drew := ⟨(Below.refl _ _).drew, fun e => (by cases e), fun e => (by cases e), fun e => (by cases e), fun e => (by cases e), fun e => (by cases e), fun e => (by cases e), fun e => (by cases e)⟩
theorem CtS.mv (h : CtS W0 S T y C l c M V L w) (i : Nat) (hi : i ≠ 2 ∧ i ≠ 5 ∧ i ≠ 8 ∧ i ≠ 9 ∧ i ≠ 10) {v : Value} : CtS W0 S T y C l c M (updV V i v) (upd L i) w := by
  obtain ⟨i2, i5, i8, i9, i10⟩ := hi
  have a := fun k (hk : k ≠ i) => upd_other L hk
  have b := fun k (hk : k ≠ i) => updV_other V v hk
  refine ⟨h.sv, ?_, ?_, ?_, ?_, ?_, ?_, ?_⟩
  · rw [a 2 (Ne.symm i2), a 5 (Ne.symm i5), b 2 (Ne.symm i2)]; exact h.v2
  · rw [a 5 (Ne.symm i5), a 9 (Ne.symm i9), b 5 (Ne.symm i5)]; exact h.v5
  · rw [a 8 (Ne.symm i8), a 9 (Ne.symm i9), b 8 (Ne.symm i8), a 2 (Ne.symm i2), a 5 (Ne.symm i5), b 2 (Ne.symm i2), b 5 (Ne.symm i5)]; exact h.v8
  · rw [a 9 (Ne.symm i9), b 9 (Ne.symm i9)]; exact h.v9
  · rw [a 10 (Ne.symm i10), a 9 (Ne.symm i9), b 10 (Ne.symm i10), b 9 (Ne.symm i9)]; exact h.v10
  · rw [a 5 (Ne.symm i5), a 2 (Ne.symm i2)]; exact h.d5
  · rw [a 9 (Ne.symm i9), a 5 (Ne.symm i5)]; exact h.d9
theorem CtS.step {B : Nat} {v : Value} (hg : w.grownBy w' v.ownBlock) (hB : Below B W0 w) (hw : B ≤ w.heap.size) (hv : ∀ k, v.ownBlock = some k → B ≤ k) : Below B W0 w' := hB.trans ((Below.refl _ _).grown hg hw hv)
theorem CtS.o2 (h : CtS W0 S T y C l c M V L w) (hL : L 2 = false) {v' : Value} (hc : CatV W0.heap.size w' v' ([] ++ S)) (hg : w.grownBy w' (Value.slice none 0 0).ownBlock) (hv : v'.ownBlock = (Value.slice none 0 0).ownBlock ∨ v'.ownBlock = some w.heap.size) : CtS W0 S T y C l c M (updV V 2 v') (upd L 2) w' := by
  have l5 : L 5 = false := by cases e : L 5 with
    | false => rfl
    | true => rw [h.d5 e] at hL; cases hL
  have l9 : L 9 = false := by cases e : L 9 with
    | false => rfl
    | true => rw [h.d9 e] at l5; cases l5
  have hs : Below W0.heap.size W0 w' := CtS.step hg h.sv h.sv.size (fun k e => by cases e)
  refine ⟨hs, fun _ _ => hc, fun e => ?_, fun e1 e2 => ?_, fun e => ?_, fun e => ?_, fun _ => rfl, fun e => h.d9 e⟩
  · have e : L 5 = true := e
    rw [l5] at e; cases e
  · obtain ⟨g, q1, q2, q3, q4, q5⟩ := h.v8 e1 e2
    refine ⟨g, q1, Nat.lt_of_lt_of_le q2 hg.size, (hg.block g q2 (fun e => by cases e)).trans q3, fun _ _ => ?_, q5⟩
    show v'.ownBlock ≠ some g
    rcases hv with hv | hv
    · rw [hv]; intro e; cases e
    · rw [hv]; intro e; injection e with e; omega
  · have e : L 9 = true := e
    rw [l9] at e; cases e
  · have e : L 10 = true := e
    rw [(h.v10 e).1] at l9; cases l9
theorem CtS.o5 (h : CtS W0 S T y C l c M V L w) (p2 : L 2 = true) (hL : L 5 = false) {v' : Value} (hc : CatV W0.heap.size w' v' (S ++ T)) (hg : w.grownBy w' (V 2).ownBlock) (hv : v'.ownBlock = (V 2).ownBlock ∨ v'.ownBlock = some w.heap.size) : CtS W0 S T y C l c M (updV V 5 v') (upd L 5) w' := by
  have l9 : L 9 = false := by cases e : L 9 with
    | false => rfl
    | true => rw [h.d9 e] at hL; cases hL
  have hs : Below W0.heap.size W0 w' := CtS.step hg h.sv h.sv.size (fun k e => ((h.v2 p2 hL).lt e).1)
  refine ⟨hs, fun _ e => (by cases e), fun _ _ => hc, fun e1 e2 => ?_, fun e => ?_, fun e => ?_, fun _ => p2, fun _ => rfl⟩
  · obtain ⟨g, q1, q2, q3, q4, q5⟩ := h.v8 e1 e2
    refine ⟨g, q1, Nat.lt_of_lt_of_le q2 hg.size, (hg.block g q2 (fun e => q4 p2 hL e.symm)).trans q3, fun _ e => (by cases e), fun _ => ?_⟩
    show v'.ownBlock ≠ some g
    rcases hv with hv | hv
    · rw [hv]; exact q4 p2 hL
    · rw [hv]; intro e; injection e with e; omega
  · have e : L 9 = true := e
    rw [l9] at e; cases e
  · have e : L 10 = true := e
    rw [(h.v10 e).1] at l9; cases l9
theorem CtS.o8 (h : CtS W0 S T y C l c M V L w) : CtS W0 S T y C l c M (updV V 8 (.slice (some ⟨w.heap.size, 0, none⟩) 1 1)) (upd L 8) (w.alloc (.cells #[.int .i64 y, .slice C l c] 35)) := by
  have hb := below_alloc w (.cells #[.int .i64 y, .slice C l c] 35)
  refine ⟨h.sv.trans (hb.mono h.sv.size), fun e1 e2 => (h.v2 e1 e2).stay hb h.sv.size, fun e1 e2 => (h.v5 e1 e2).stay hb h.sv.size, fun _ e9 => ⟨_, rfl, by simp, heap_alloc_new _ _, fun e1 e2 e => ?_, fun e1 e => ?_⟩, fun e => (h.v9 e).stay hb h.sv.size, h.v10, h.d5, h.d9⟩
  · have := ((h.v2 e1 e2).lt e).2; omega
  · have e9 : L 9 = false := e9
    have := ((h.v5 e1 e9).lt e).2; omega
theorem CtS.o9 (h : CtS W0 S T y C M.length c M V L w) (p5 : L 5 = true) (hL : L 9 = false) {H : List HV} (q2 : H.length = (S ++ T).length) (q3 : ∀ k, k < (S ++ T).length → (hvAt H k).1 = hS (S ++ T) k ∧ ∃ C c, (hvAt H k).2 = .slice C (vS (S ++ T) k).length c ∧ IntsP (fun b => b < W0.heap.size) w C c (vS (S ++ T) k))
    (hM : IntsP (fun b => b < W0.heap.size) w C c M) (q1 : HvOwn w W0.heap.size (V 5) H) {v' : Value} (ho : HvOwn w' W0.heap.size v' (H ++ [(y, .slice C M.length c)])) (hg : w.grownBy w' (V 5).ownBlock) : CtS W0 S T y C M.length c M (updV V 9 v') (upd L 9) w' := by
  have hb : Below W0.heap.size w w' := (Below.refl _ _).grown hg h.sv.size (fun k hk => (World.ownsRow.lt q1 k hk).1)
  refine ⟨h.sv.trans hb, fun e1 e2 => ?_, fun e1 e2 => (by cases e2), fun e1 e2 => (by cases e2), fun _ => ⟨_, ho, (by simp [q2]; omega), fun k hk => ?_⟩, fun e => ?_, h.d5, fun _ => p5⟩
  · have e2 : L 5 = false := e2
    rw [p5] at e2; cases e2
  · rcases Nat.lt_or_ge k (S ++ T).length with hk1 | hk1
    · obtain ⟨e1, C', c', e2, e3⟩ := q3 k hk1
      rw [hvAt_append (by omega), (hS_append hk1).1, (hS_append hk1).2]
      exact ⟨e1, C', c', e2, e3.keep (Kept.app hb)⟩
    · obtain rfl : k = (S ++ T).length := by simp at hk hk1; simp; omega
      rw [hS_last.1, hS_last.2, ← q2, hvAt_last]
      exact ⟨rfl, C, c, rfl, hM.keep (Kept.app hb)⟩
  · have e : L 10 = true := e
    rw [(h.v10 e).1] at hL; cases hL
theorem CtS.o10 (h : CtS W0 S T y C l c M V L w) (p9 : L 9 = true) : CtS W0 S T y C l c M (updV V 10 (V 9)) (upd L 10) w := ⟨h.sv, h.v2, h.v5, h.v8, h.v9, fun _ => ⟨p9, rfl⟩, h.d5, h.d9⟩
end
def ctPL (gx : Nat) (A B C : Option Addr) (ca cb cc : Nat) (S T : List Shr) (y : Int) (M : List Int) : List (Pr (fun _ _ => True)) := [Pr.eq (.pointer (some ⟨gx, 1, none⟩)), Pr.eq (.slice A S.length ca), Pr.any, Pr.eq (.pointer (some ⟨gx, 2, none⟩)), Pr.eq (.slice B T.length cb), Pr.any, Pr.eq (.pointer (some ⟨gx, 3, none⟩)), Pr.eq (shV y (.slice C M.length cc)), Pr.any, Pr.any, Pr.any]
def ctV (G K : GiftD) : Value := .tuple #[.int .i64 (cntC (allS G) (allS K) (allS G).length : Nat), .int .i64 (allC (allS G) (allS G).length : Nat)]
set_option maxRecDepth 100000 in
set_option maxHeartbeats 8000000 in
theorem count_any {P P' : Nat → Prop} (p : Nat) (u v : Value) (G K : GiftD) (w : World) (hG : GiftR P w u G) (hK : GiftR P' w v K) (sG : GTiny G) (sK : GTiny K) (hF : FormG p G K) (hp : p ≤ 1073741824) :
    Calls Tryd.prog 23 #[.int .i64 p, u, v] w (RetB (ctV G K) w) := by
  obtain ⟨A, ca, B, cb, C, cc, rfl, g1, g2, g3⟩ := hG
  obtain ⟨A', ca', B', cb', C', cc', rfl, k1, k2, k3⟩ := hK
  have HG1 := Lib.hid g1
  have HG2 := Lib.hid g2
  have HG3 := Lib.hid g3
  have HK1 := Lib.hid k1
  have HK2 := Lib.hid k2
  have HK3 := Lib.hid k3
  have HF := Lib.hid hF
  have HSG := Lib.hid sG
  have HSK := Lib.hid sK
  have sl := sG.bl
  have tl := sG.wl
  have sl' := sK.bl
  have tl' := sK.wl
  clear g1 g2 g3 k1 k2 k3 hF sG sK
  obtain ⟨h, S, T, y, M⟩ := G
  obtain ⟨h', S', T', y', M'⟩ := K
  obtain rfl : h = h' := HF.out.h
  simp only at sl tl sl' tl'
  go_enter Tryd.func23, Tryd.ntmps23
  go_wp2_with fail
  refine gen_world fun w1 hw1 => ?_
  have HB1 := Lib.hid (show Below w.heap.size w w1 from by rw [hw1]; exact bl_alloc _ (below_alloc _ _))
  have HC := Lib.hid (show GiftCell w1 w.heap.size h (.slice A S.length ca) (.slice B T.length cb) y (.slice C M.length cc) from by rw [hw1]; exact (GiftCell.new _ _ _ _ _ rfl).alloc _)
  have HD := Lib.hid (show GiftCell w1 (w.heap.size + 1) h (.slice A' S'.length ca') (.slice B' T'.length cb') y' (.slice C' M'.length cc') from by rw [hw1]; exact GiftCell.new _ _ _ _ _ (by simp))
  clear hw1
  have hS0 := Lib.hid ((HG1.out.below HB1.out).mono (Q := fun b => b < w1.heap.size) (fun b hb _ => hb))
  have hT0 := Lib.hid ((HG2.out.below HB1.out).mono (Q := fun b => b < w1.heap.size) (fun b hb _ => hb))
  have hM0 := Lib.hid ((HG3.out.keep (Kept.below HB1.out)).mono (Q := fun b => b < w1.heap.size) (fun b hb _ => hb))
  generalize hgx : w.heap.size = gx at *
  have HGE := Lib.hid hgx
  clear hgx
  have X1 := Lib.hid HC.out.c1
  have X2 := Lib.hid HC.out.c2
  have X3 := Lib.hid HC.out.c3
  have X4 := Lib.hid HC.out.c4
  have LX := Lib.hid HC.out.lt
  refine wp_region_J2 (GI (ctPL gx A B C ca cb cc S T y M) (CtS w1 S T y C M.length cc M)) (by kernel_rfl) (by kernel_rfl) (by kernel_rfl) ?_ ?_ ?_
  case refine_1 => exact fun V => GI.start (CtS.start V)
  case refine_2 =>
    refine JSteps.cons (fun V Ld a W hLi hpre hR hI K hK => ?_) ?_
    · have o4 := (hR.old 4 (by kernel_rfl)).trans (show _ = Value.pointer (some ⟨gx, 0, none⟩) from rfl)
      exact J_fieldAddr rfl _ (.tmp 4) 1 rfl (by rw [o4]; go_simp) (hK _ _ (hI.put0 0 rfl rfl (hI.st.mv _ (by decide))))
    refine JSteps.cons (fun V Ld a W hLi hpre hR hI K hK => ?_) ?_
    · have p0 : Ld 0 = true := hpre 0 (List.mem_of_elem_eq_true (by kernel_rfl))
      have f0 := (hR.ev 0 rfl rfl p0).trans (hI.val 0 _ rfl p0)
      have c0 := (hI.st.sv.cell LX.out).trans X1.out
      exact J_load rfl _ (.tmp 14) rfl (by rw [f0]; go_simp) (hK _ _ (hI.put0 1 rfl rfl (hI.st.mv _ (by decide))))
    refine JSteps.cons (fun V Ld a W hLi hpre hR hI K hK => ?_) ?_
    · have p1 : Ld 1 = true := hpre 1 (List.mem_of_elem_eq_true (by kernel_rfl))
      have f1 := (hR.ev 1 rfl rfl p1).trans (hI.val 1 _ rfl p1)
      refine J_app_cat rfl (.const (.slice none 0 0)) (.tmp 15) rfl (B := w1.heap.size) rfl (CatV.none _ _) f1 rfl (hS0.out.kept hI.st.sv) (by simp) (by omega) hI.st.sv.size ?_
      exact fun v' w' hc hg hv => hK _ _ (hI.put trivial 2 rfl trivial (hI.st.o2 hLi hc hg hv))
    refine JSteps.cons (fun V Ld a W hLi hpre hR hI K hK => ?_) ?_
    · have o4 := (hR.old 4 (by kernel_rfl)).trans (show _ = Value.pointer (some ⟨gx, 0, none⟩) from rfl)
      exact J_fieldAddr rfl _ (.tmp 4) 2 rfl (by rw [o4]; go_simp) (hK _ _ (hI.put0 3 rfl rfl (hI.st.mv _ (by decide))))
    refine JSteps.cons (fun V Ld a W hLi hpre hR hI K hK => ?_) ?_
    · have p3 : Ld 3 = true := hpre 3 (List.mem_of_elem_eq_true (by kernel_rfl))
      have f3 := (hR.ev 3 rfl rfl p3).trans (hI.val 3 _ rfl p3)
      have c0 := (hI.st.sv.cell LX.out).trans X2.out
      exact J_load rfl _ (.tmp 17) rfl (by rw [f3]; go_simp) (hK _ _ (hI.put0 4 rfl rfl (hI.st.mv _ (by decide))))
    refine JSteps.cons (fun V Ld a W hLi hpre hR hI K hK => ?_) ?_
    · have p2 : Ld 2 = true := hpre 2 (List.mem_of_elem_eq_true (by kernel_rfl))
      have p4 : Ld 4 = true := hpre 4 (List.mem_of_elem_eq_true (by kernel_rfl))
      have f4 := (hR.ev 4 rfl rfl p4).trans (hI.val 4 _ rfl p4)
      refine J_app_cat rfl (.tmp 16) (.tmp 18) rfl (B := w1.heap.size) (hR.ev 2 rfl rfl p2) (hI.st.v2 p2 hLi) f4 rfl (hT0.out.kept hI.st.sv) (by omega) (by omega) hI.st.sv.size ?_
      exact fun v' w' hc hg hv => hK _ _ (hI.put trivial 5 rfl trivial (hI.st.o5 p2 hLi hc hg hv))
    refine JSteps.cons (fun V Ld a W hLi hpre hR hI K hK => ?_) ?_
    · have o4 := (hR.old 4 (by kernel_rfl)).trans (show _ = Value.pointer (some ⟨gx, 0, none⟩) from rfl)
      exact J_fieldAddr rfl _ (.tmp 4) 3 rfl (by rw [o4]; go_simp) (hK _ _ (hI.put0 6 rfl rfl (hI.st.mv _ (by decide))))
    refine JSteps.cons (fun V Ld a W hLi hpre hR hI K hK => ?_) ?_
    · have p6 : Ld 6 = true := hpre 6 (List.mem_of_elem_eq_true (by kernel_rfl))
      have f6 := (hR.ev 6 rfl rfl p6).trans (hI.val 6 _ rfl p6)
      have c0 := (hI.st.sv.cell LX.out).trans X3.out
      have c1 := (hI.st.sv.cell LX.out).trans X4.out
      exact J_load rfl _ (.tmp 20) rfl (by rw [f6]; go_simp) (hK _ _ (hI.put0 7 rfl rfl (hI.st.mv _ (by decide))))
    refine JSteps.cons (fun V Ld a W hLi hpre hR hI K hK => ?_) ?_
    · have p7 : Ld 7 = true := hpre 7 (List.mem_of_elem_eq_true (by kernel_rfl))
      have f7 := (hR.ev 7 rfl rfl p7).trans (hI.val 7 _ rfl p7)
      exact J_buildSlice rfl _ 1 _ rfl (by simp only [List.map_toArray, List.map_cons, List.map_nil, f7]; exact bs_share W y C M.length cc) (hK _ _ (hI.put trivial 8 rfl trivial hI.st.o8))
    refine JSteps.cons (fun V Ld a W hLi hpre hR hI K hK => ?_) ?_
    · have p5 : Ld 5 = true := hpre 5 (List.mem_of_elem_eq_true (by kernel_rfl))
      have p8 : Ld 8 = true := hpre 8 (List.mem_of_elem_eq_true (by kernel_rfl))
      obtain ⟨g, e1, e2, e3, e4⟩ := hI.st.v8 p8 hLi
      obtain ⟨H, q1, q2, q3⟩ := hI.st.v5 p5 hLi
      refine J_app_sh W rfl (.tmp 19) (.tmp 22) rfl w1.heap.size _ H y C M.length cc g (hR.ev 5 rfl rfl p5) ((hR.ev 8 rfl rfl p8).trans e1) e3 q1 (by rw [q2, List.length_append]; omega) hI.st.sv.size ?_
      exact fun g' cap w' ho hg hat => hK _ _ (hI.put trivial 9 rfl trivial (hI.st.o9 p5 hLi q2 q3 (hM0.out.keep (Kept.app hI.st.sv)) q1 ho hg))
    refine JSteps.cons (fun V Ld a W hLi hpre hR hI K hK => ?_) trivial
    · have p9 : Ld 9 = true := hpre 9 (List.mem_of_elem_eq_true (by kernel_rfl))
      exact G_assign rfl (.tmp 23) rfl (hR.ev 9 rfl rfl p9) (hK _ _ (hI.put0 10 rfl trivial (hI.st.o10 p9)))
  case refine_3 =>
    intro V Ld w2 hLd hI
    obtain ⟨-, e10⟩ := hI.st.v10 (hLd 10 (by decide))
    obtain ⟨AX, cX, e9, hX⟩ := (hI.st.v9 (hLd 9 (by decide))).read
    have hb2 := HB1.out.trans (hI.st.sv.mono (Nat.le_of_lt HC.out.lt))
    have HXS := Lib.hid hX
    replace HC := Lib.hid (HC.out.below hI.st.sv)
    replace HD := Lib.hid (HD.out.below hI.st.sv)
    clear HB1
    have HB1 := Lib.hid hb2
    clear hb2 hX hI hLd X1 X2 X3 X4 LX hS0 hT0 hM0
    simp only [finL, putL, Act.put, Nat.reduceAdd]
    rw [e10, e9]
    clear e10 e9
    generalize V 0 = q0
    generalize V 1 = q1
    generalize V 2 = q2
    generalize V 3 = q3
    generalize V 4 = q4
    generalize V 5 = q5
    generalize V 6 = q6
    generalize V 7 = q7
    generalize V 8 = q8
    clear V
    simp only [List.setIfInBounds_toArray, List.set_cons_succ, List.set_cons_zero]
    have lenX : (S ++ T ++ [(y, M)]).length = S.length + T.length + 1 := by simp; omega
    have LENX := Lib.hid lenX
    clear lenX
    go_wp2_with fail
    refine gen_world fun w3 hw3 => ?_
    obtain rfl : w2 = w3 := hw3.symm
    clear hw3
    have hS0 := Lib.hid ((HK1.out.below (by rw [HGE.out]; exact HB1.out)).mono (Q := fun b => b < w2.heap.size) (fun b hb _ => hb))
    have hT0 := Lib.hid ((HK2.out.below (by rw [HGE.out]; exact HB1.out)).mono (Q := fun b => b < w2.heap.size) (fun b hb _ => hb))
    have hM0 := Lib.hid ((HK3.out.keep (Kept.below (by rw [HGE.out]; exact HB1.out))).mono (Q := fun b => b < w2.heap.size) (fun b hb _ => hb))
    have HKX := Lib.hid (show gx + 1 < w2.heap.size from HD.out.lt)
    have X1 := Lib.hid HD.out.c1
    have X2 := Lib.hid HD.out.c2
    have X3 := Lib.hid HD.out.c3
    have X4 := Lib.hid HD.out.c4
    have LX := Lib.hid HD.out.lt
    refine wp_region_J2 (GI (ctPL (gx + 1) A' B' C' ca' cb' cc' S' T' y' M') (CtS w2 S' T' y' C' M'.length cc' M')) (by kernel_rfl) (by kernel_rfl) (by kernel_rfl) ?_ ?_ ?_
    case refine_1 => exact fun V => GI.start (CtS.start V)
    case refine_2 =>
      refine JSteps.cons (fun V Ld a W hLi hpre hR hI K hK => ?_) ?_
      · have o5 := (hR.old 5 (by kernel_rfl)).trans (show _ = Value.pointer (some ⟨gx + 1, 0, none⟩) from rfl)
        exact J_fieldAddr rfl _ (.tmp 5) 1 rfl (by rw [o5]; go_simp) (hK _ _ (hI.put0 0 rfl rfl (hI.st.mv _ (by decide))))
      refine JSteps.cons (fun V Ld a W hLi hpre hR hI K hK => ?_) ?_
      · have p0 : Ld 0 = true := hpre 0 (List.mem_of_elem_eq_true (by kernel_rfl))
        have f0 := (hR.ev 0 rfl rfl p0).trans (hI.val 0 _ rfl p0)
        have c0 := (hI.st.sv.cell LX.out).trans X1.out
        exact J_load rfl _ (.tmp 24) rfl (by rw [f0]; go_simp) (hK _ _ (hI.put0 1 rfl rfl (hI.st.mv _ (by decide))))
      refine JSteps.cons (fun V Ld a W hLi hpre hR hI K hK => ?_) ?_
      · have p1 : Ld 1 = true := hpre 1 (List.mem_of_elem_eq_true (by kernel_rfl))
        have f1 := (hR.ev 1 rfl rfl p1).trans (hI.val 1 _ rfl p1)
        refine J_app_cat rfl (.const (.slice none 0 0)) (.tmp 25) rfl (B := w2.heap.size) rfl (CatV.none _ _) f1 rfl (hS0.out.kept hI.st.sv) (by simp) (by omega) hI.st.sv.size ?_
        exact fun v' w' hc hg hv => hK _ _ (hI.put trivial 2 rfl trivial (hI.st.o2 hLi hc hg hv))
      refine JSteps.cons (fun V Ld a W hLi hpre hR hI K hK => ?_) ?_
      · have o5 := (hR.old 5 (by kernel_rfl)).trans (show _ = Value.pointer (some ⟨gx + 1, 0, none⟩) from rfl)
        exact J_fieldAddr rfl _ (.tmp 5) 2 rfl (by rw [o5]; go_simp) (hK _ _ (hI.put0 3 rfl rfl (hI.st.mv _ (by decide))))
      refine JSteps.cons (fun V Ld a W hLi hpre hR hI K hK => ?_) ?_
      · have p3 : Ld 3 = true := hpre 3 (List.mem_of_elem_eq_true (by kernel_rfl))
        have f3 := (hR.ev 3 rfl rfl p3).trans (hI.val 3 _ rfl p3)
        have c0 := (hI.st.sv.cell LX.out).trans X2.out
        exact J_load rfl _ (.tmp 27) rfl (by rw [f3]; go_simp) (hK _ _ (hI.put0 4 rfl rfl (hI.st.mv _ (by decide))))
      refine JSteps.cons (fun V Ld a W hLi hpre hR hI K hK => ?_) ?_
      · have p2 : Ld 2 = true := hpre 2 (List.mem_of_elem_eq_true (by kernel_rfl))
        have p4 : Ld 4 = true := hpre 4 (List.mem_of_elem_eq_true (by kernel_rfl))
        have f4 := (hR.ev 4 rfl rfl p4).trans (hI.val 4 _ rfl p4)
        refine J_app_cat rfl (.tmp 26) (.tmp 28) rfl (B := w2.heap.size) (hR.ev 2 rfl rfl p2) (hI.st.v2 p2 hLi) f4 rfl (hT0.out.kept hI.st.sv) (by omega) (by omega) hI.st.sv.size ?_
        exact fun v' w' hc hg hv => hK _ _ (hI.put trivial 5 rfl trivial (hI.st.o5 p2 hLi hc hg hv))
      refine JSteps.cons (fun V Ld a W hLi hpre hR hI K hK => ?_) ?_
      · have o5 := (hR.old 5 (by kernel_rfl)).trans (show _ = Value.pointer (some ⟨gx + 1, 0, none⟩) from rfl)
        exact J_fieldAddr rfl _ (.tmp 5) 3 rfl (by rw [o5]; go_simp) (hK _ _ (hI.put0 6 rfl rfl (hI.st.mv _ (by decide))))
      refine JSteps.cons (fun V Ld a W hLi hpre hR hI K hK => ?_) ?_
      · have p6 : Ld 6 = true := hpre 6 (List.mem_of_elem_eq_true (by kernel_rfl))
        have f6 := (hR.ev 6 rfl rfl p6).trans (hI.val 6 _ rfl p6)
        have c0 := (hI.st.sv.cell LX.out).trans X3.out
        have c1 := (hI.st.sv.cell LX.out).trans X4.out
        exact J_load rfl _ (.tmp 30) rfl (by rw [f6]; go_simp) (hK _ _ (hI.put0 7 rfl rfl (hI.st.mv _ (by decide))))
      refine JSteps.cons (fun V Ld a W hLi hpre hR hI K hK => ?_) ?_
      · have p7 : Ld 7 = true := hpre 7 (List.mem_of_elem_eq_true (by kernel_rfl))
        have f7 := (hR.ev 7 rfl rfl p7).trans (hI.val 7 _ rfl p7)
        exact J_buildSlice rfl _ 1 _ rfl (by simp only [List.map_toArray, List.map_cons, List.map_nil, f7]; exact bs_share W y' C' M'.length cc') (hK _ _ (hI.put trivial 8 rfl trivial hI.st.o8))
      refine JSteps.cons (fun V Ld a W hLi hpre hR hI K hK => ?_) ?_
      · have p5 : Ld 5 = true := hpre 5 (List.mem_of_elem_eq_true (by kernel_rfl))
        have p8 : Ld 8 = true := hpre 8 (List.mem_of_elem_eq_true (by kernel_rfl))
        obtain ⟨g, e1, e2, e3, e4⟩ := hI.st.v8 p8 hLi
        obtain ⟨H, q1, q2, q3⟩ := hI.st.v5 p5 hLi
        refine J_app_sh W rfl (.tmp 29) (.tmp 32) rfl w2.heap.size _ H y' C' M'.length cc' g (hR.ev 5 rfl rfl p5) ((hR.ev 8 rfl rfl p8).trans e1) e3 q1 (by rw [q2, List.length_append]; omega) hI.st.sv.size ?_
        exact fun g' cap w' ho hg hat => hK _ _ (hI.put trivial 9 rfl trivial (hI.st.o9 p5 hLi q2 q3 (hM0.out.keep (Kept.app hI.st.sv)) q1 ho hg))
      refine JSteps.cons (fun V Ld a W hLi hpre hR hI K hK => ?_) trivial
      · have p9 : Ld 9 = true := hpre 9 (List.mem_of_elem_eq_true (by kernel_rfl))
        exact G_assign rfl (.tmp 33) rfl (hR.ev 9 rfl rfl p9) (hK _ _ (hI.put0 10 rfl trivial (hI.st.o10 p9)))
    case refine_3 =>
      intro V Ld w3 hLd hI
      obtain ⟨-, e10⟩ := hI.st.v10 (hLd 10 (by decide))
      obtain ⟨AY, cY, e9, hY⟩ := (hI.st.v9 (hLd 9 (by decide))).read
      have hb3 := hI.st.sv
      have HYS := Lib.hid hY
      replace HXS := Lib.hid (HXS.out.below hb3)
      replace HC := Lib.hid (HC.out.below hb3)
      replace HD := Lib.hid (HD.out.below hb3)
      replace HB1 := Lib.hid (HB1.out.trans (hb3.mono (by have := HKX.out; omega)))
      have HGX := Lib.hid (show gx ≤ w3.heap.size from by have := HC.out.lt; omega)
      clear hY hI hLd X1 X2 X3 X4 LX hS0 hT0 hM0 hb3 HKX
      simp only [finL, putL, Act.put, Nat.reduceAdd]
      rw [e10, e9]
      clear e10 e9
      generalize V 0 = r0
      generalize V 1 = r1
      generalize V 2 = r2
      generalize V 3 = r3
      generalize V 4 = r4
      generalize V 5 = r5
      generalize V 6 = r6
      generalize V 7 = r7
      generalize V 8 = r8
      clear V
      simp only [List.setIfInBounds_toArray, List.set_cons_succ, List.set_cons_zero]
      have e1 : S'.length = S.length := HF.out.bl.symm
      have e2 : T'.length = T.length := HF.out.wl.symm
      rw [show (S' ++ T' ++ [(y', M')]).length = (S ++ T ++ [(y, M)]).length from by simp [e1, e2]]
      have x0 := HC.out.c0
      have x1 := HC.out.c1
      have y0 := HD.out.c0
      have y1 : w3.cell? ⟨gx + 1, 1, none⟩ = some (.slice A' S.length ca') := by rw [← e1]; exact HD.out.c1
      have HAT := Lib.hid (show ∀ i, i < (S ++ T ++ [(y, M)]).length → hS (S ++ T ++ [(y, M)]) i = hS (S' ++ T' ++ [(y', M')]) i ∧ (vS (S ++ T ++ [(y, M)]) i).length = (vS (S' ++ T' ++ [(y', M')]) i).length ∧ ElsOK p (vS (S ++ T ++ [(y, M)]) i) from HF.out.at_)
      have HTA := Lib.hid (show ∀ i, i < (S ++ T ++ [(y, M)]).length → (vS (S ++ T ++ [(y, M)]) i).length ≤ 1000 from HSG.out.all.1)
      have HLEN := Lib.hid (show (S ++ T ++ [(y, M)]).length = (S' ++ T' ++ [(y', M')]).length from by simp [e1, e2])
      have hXl : (S ++ T ++ [(y, M)]).length ≤ 2001 := by rw [LENX.out]; omega
      have HV := Lib.hid (show ctV ⟨h, S, T, y, M⟩ ⟨h, S', T', y', M'⟩ = .tuple #[.int .i64 (cntC (S ++ T ++ [(y, M)]) (S' ++ T' ++ [(y', M')]) (S ++ T ++ [(y, M)]).length : Nat), .int .i64 (allC (S ++ T ++ [(y, M)]) (S ++ T ++ [(y, M)]).length : Nat)] from rfl)
      generalize ctV ⟨h, S, T, y, M⟩ ⟨h, S', T', y', M'⟩ = RV at *
      generalize S ++ T ++ [(y, M)] = X at *
      generalize S' ++ T' ++ [(y', M')] = Y at *
      clear e1 e2 HG1 HG2 HG3 HK1 HK2 HK3 HF HSG HSK
      go_wp2_with fail
      clear x0 x1 y0 y1
      go_loopw [10, 11, 12] (fun n al i wr => ∃ k : Nat, k ≤ X.length ∧ n = .int .i64 (cntC X Y k : Nat) ∧ al = .int .i64 (allC X k : Nat) ∧ i = .int .i64 k ∧ Below w3.heap.size w3 wr) (fun _ _ i _ => X.length - (intOf i).toNat)
      case atStart => exact ⟨0, Nat.zero_le _, rfl, rfl, rfl, Below.refl _ _⟩
      case round =>
        obtain ⟨k, hk, rfl, rfl, rfl, hbr⟩ := hrel
        have HBR := Lib.hid hbr
        clear hbr
        by_cases hlt : k < X.length
        · have hk0 : (0 : Int) ≤ (k : Int) := by omega
          have hkl : (k : Int) < (X.length : Int) := by omega
          obtain ⟨bx, ox, BX, dx, rfl, ltx, -, sx0, sx1, sx2⟩ := (HXS.out.below HBR.out).one hlt
          obtain ⟨by', oy, BY, dy, rfl, lty, -, sy0, sy1, sy2⟩ := (HYS.out.below HBR.out).one (k := k) (by rw [← HLEN.out]; exact hlt)
          obtain ⟨t1, t2, t3⟩ := HAT.out k hlt
          rw [← t1] at sy0
          rw [← t2] at sy1
          have HIX := Lib.hid sx2.ints
          have HIY := Lib.hid sy2.ints
          have HTL := Lib.hid t2
          have HEL := Lib.hid t3
          have hlk := HTA.out k hlt
          have hc1 := cntC_le (X := X) (Y := Y) k (fun i hi => HTA.out i (by omega))
          have hc2 := allC_le (X := X) k (fun i hi => HTA.out i (by omega))
          have hm : k * 1000 ≤ 2001 * 1000 := Nat.mul_le_mul_right _ (by omega)
          have HC1 := Lib.hid (show cntC X Y (k + 1) = cntC X Y k + difC (vS X k) (vS Y k) (vS X k).length from rfl)
          have HC2 := Lib.hid (show allC X (k + 1) = allC X k + (vS X k).length from rfl)
          clear t1 t2 t3 sx2 sy2
          generalize hS X k = hd at *
          generalize vS X k = L1 at *
          generalize vS Y k = L2 at *
          generalize cntC X Y k = n1 at *
          generalize allC X k = n2 at *
          have hn1 : n1 ≤ 2001000 := by omega
          have hn2 : n2 ≤ 2001000 := by omega
          clear hc1 hc2 hm
          go_wp2_with fail
          go_quiet (fail)
          go_wp2_with fail
          go_loopw [10, 11, 13] (fun n al i wv => ∃ j : Nat, j ≤ L1.length ∧ n = .int .i64 (n1 + difC L1 L2 j : Nat) ∧ al = .int .i64 (n2 + j : Nat) ∧ i = .int .i64 j ∧ Below wr.heap.size wr wv) (fun _ _ i _ => L1.length - (intOf i).toNat)
          case atStart => exact ⟨0, Nat.zero_le _, rfl, rfl, rfl, below_drewN (Below.refl _ _) _⟩
          case round =>
            obtain ⟨j, hj, rfl, rfl, rfl, hbv⟩ := hrel
            have HBV := Lib.hid hbv
            clear hbv
            replace sx1 := (HBV.out.cell ltx).trans sx1
            replace sy1 := (HBV.out.cell lty).trans sy1
            have hdj := difC_le L1 L2 j
            by_cases hlj : j < L1.length
            · have hj0 : (0 : Int) ≤ (j : Int) := by omega
              have hjl : (j : Int) < (L1.length : Int) := by omega
              obtain ⟨b1, o1, rfl, lt1, z1⟩ := (HIX.out.below HBV.out) j hlj
              obtain ⟨b2, o2, rfl, lt2, z2⟩ := (HIY.out.below HBV.out) j (by rw [← HTL.out]; exact hlj)
              obtain ⟨r0, r1⟩ := els_nth HEL.out hlj
              have r2 : ¬ (p : Int) ≤ nth L1 j := by omega
              have r3 : ¬ nth L1 j < 0 := by omega
              have HD1 := Lib.hid (show difC L1 L2 (j + 1) = difC L1 L2 j + if nth L1 j = nth L2 j then 0 else 1 from rfl)
              by_cases ev : nth L1 j = nth L2 j
              · have hbn : (nth L1 j != nth L2 j) = false := by simp [ev]
                have HD2 := Lib.hid (show difC L1 L2 (j + 1) = difC L1 L2 j from by rw [HD1.out, if_pos ev]; rfl)
                clear ev HD1
                generalize nth L1 j = t1 at *
                generalize nth L2 j = t2 at *
                generalize difC L1 L2 j = dj at *
                go_wp2_with fail
                go_quiet (fail)
                go_wp2_with fail
                go_roundw
                case rel => exact ⟨j + 1, by omega, by rw [HD2.out]; go_num, by go_num, by go_num, below_drewN HBV.out _⟩
                case measure => simp [intOf]; omega
              · have hbn : (nth L1 j != nth L2 j) = true := by simp [ev]
                have HD2 := Lib.hid (show difC L1 L2 (j + 1) = difC L1 L2 j + 1 from by rw [HD1.out, if_neg ev])
                clear ev HD1
                generalize nth L1 j = t1 at *
                generalize nth L2 j = t2 at *
                generalize difC L1 L2 j = dj at *
                go_wp2_with fail
                go_quiet (fail)
                go_wp2_with fail
                go_roundw
                case rel => exact ⟨j + 1, by omega, by rw [HD2.out]; go_num, by go_num, by go_num, below_drewN HBV.out _⟩
                case measure => simp [intOf]; omega
            · obtain rfl : L1.length = j := by omega
              have hjl : ¬ (L1.length : Int) < (L1.length : Int) := by omega
              generalize difC L1 L2 L1.length = dj at *
              go_wp2_with fail
              go_roundw
              case rel => exact ⟨k + 1, by omega, by rw [HC1.out], by rw [HC2.out], by go_num, below_trans HBR.out HBV.out⟩
              case measure => simp [intOf]; omega
        · obtain rfl : X.length = k := by omega
          have hkl : ¬ (X.length : Int) < (X.length : Int) := by omega
          generalize cntC X Y X.length = n1 at *
          generalize allC X X.length = n2 at *
          go_wp2_with fail
          go_ret2
          exact RetB.val HV.out.symm (by rw [HGE.out]; exact HB1.out.trans (HBR.out.mono HGX.out))
end Go.Proofs.YtjckpammcgeloaaDoor
namespace Go.Proofs.YtjckpammcgeloaaDoor
open Go.RowKit

/-- At which operations gifts are made, variables made, and filled. -/
structure Ixs (m : Nat) (ig ia is : Nat → Nat) : Prop where
  ga : ∀ j, j < m → ∀ k, k < m → ig j ≠ ia k
  gs : ∀ j, j < m → ∀ k, k < m → ig j ≠ is k
  az : ∀ j, j < m → ∀ k, k < m → ia j ≠ is k
  gg : ∀ j, j < m → ∀ k, k < m → ig j = ig k → j = k
  aa : ∀ j, j < m → ∀ k, k < m → ia j = ia k → j = k
  ss : ∀ j, j < m → ∀ k, k < m → is j = is k → j = k
def TrD (m : Nat) (ia : Nat → Nat) (V : Nat → Value) (L : Nat → Bool) (b : Nat) : Prop := ∃ k, k < m ∧ L (ia k) = true ∧ V (ia k) = .pointer (some ⟨b, 0, none⟩)
structure TrG (W0 : World) (D m : Nat) (ig ia is : Nat → Nat) (Φ : Nat → GiftD → Prop) (V : Nat → Value) (L : Nat → Bool) (w : World) : Prop where
  sv : Sav (fun b => b = D) W0 w
  dice : ∃ R, DiceAt w D R
  gk : ∀ k, k < m → L (ig k) = true → ∃ G, Φ k G ∧ GiftR (fun b => W0.heap.size ≤ b ∧ ¬ TrD m ia V L b) w (V (ig k)) G
  ak : ∀ k, k < m → L (ia k) = true → ∃ g, V (ia k) = .pointer (some ⟨g, 0, none⟩) ∧ W0.heap.size ≤ g ∧ ∃ h b v kh kv, GiftCell w g h b v kh kv
  sk : ∀ k, k < m → L (is k) = true → L (ia k) = true ∧ L (ig k) = true ∧ ∃ g h b v kh kv, V (ia k) = .pointer (some ⟨g, 0, none⟩) ∧ V (ig k) = giftV h b v kh kv ∧ GiftCell w g h b v kh kv
  ne : ∀ j k, j < m → k < m → j ≠ k → L (ia j) = true → L (ia k) = true → ∀ g, V (ia j) = .pointer (some ⟨g, 0, none⟩) → V (ia k) = .pointer (some ⟨g, 0, none⟩) → False
section
variable {W0 w w' : World} {D m : Nat} {ig ia is : Nat → Nat} {Φ : Nat → GiftD → Prop} {V : Nat → Value} {L : Nat → Bool}
theorem TrG.start (hD : ∃ R, DiceAt W0 D R) (V : Nat → Value) : TrG W0 D m ig ia is Φ V (fun _ => false) W0.drew where
  sv := (Sav.refl _ _).trans (Sav.of_below (Below.refl _ _).drew)
  dice := by obtain ⟨R, h⟩ := hD; exact ⟨R, h.below (Below.refl _ _).drew⟩
  gk := fun _ _ e => by cases e
  ak := fun _ _ e => by cases e
  sk := fun _ _ e => by cases e
  ne := fun _ _ _ _ _ e => by cases e
theorem TrG.lt (H : TrG W0 D m ig ia is Φ V L w) {b : Nat} (h : TrD m ia V L b) : W0.heap.size ≤ b ∧ b < w.heap.size := by
  obtain ⟨k, hk, e, q⟩ := h
  obtain ⟨g, q1, q2, h, b', v, kh, kv, q3⟩ := H.ak k hk e
  rw [q1] at q
  have := ptr_inj q
  subst this
  exact ⟨q2, q3.lt⟩
/-- The world goes on; blocks of W0 alone turn, and D's alone. -/
theorem TrG.step (H : TrG W0 D m ig ia is Φ V L w) (hD : D < W0.heap.size) (hs : Sav (fun b => b = D) w w') (hd : ∃ R, DiceAt w' D R) : TrG W0 D m ig ia is Φ V L w' where
  sv := H.sv.trans hs
  dice := hd
  gk k hk e := by obtain ⟨G, f, r⟩ := H.gk k hk e; exact ⟨G, f, r.keep (hs.kept (fun b hb e2 => by have := hb.1; have e3 : b = D := e2; omega))⟩
  ak k hk e := by obtain ⟨g, q1, q2, h, b, v, kh, kv, q3⟩ := H.ak k hk e; exact ⟨g, q1, q2, h, b, v, kh, kv, q3.sav hs (fun e => by have e3 : g = D := e; omega)⟩
  sk k hk e := by
    obtain ⟨e1, e2, g, h, b, v, kh, kv, q1, q2, q3⟩ := H.sk k hk e
    obtain ⟨g', r1, r2, -⟩ := H.ak k hk e1
    have e3 : g' = g := ptr_inj (r1.symm.trans q1)
    exact ⟨e1, e2, g, h, b, v, kh, kv, q1, q2, q3.sav hs (fun e => by have e4 : g = D := e; omega)⟩
  ne := H.ne
theorem TrD.up {i : Nat} {v : Value} (hi : ∀ k, k < m → i ≠ ia k) {b : Nat} : TrD m ia (updV V i v) (upd L i) b ↔ TrD m ia V L b := by
  constructor
  · rintro ⟨k, hk, e, q⟩
    rw [upd_other L (Ne.symm (hi k hk))] at e
    rw [updV_other V v (Ne.symm (hi k hk))] at q
    exact ⟨k, hk, e, q⟩
  · rintro ⟨k, hk, e, q⟩
    exact ⟨k, hk, by rw [upd_other L (Ne.symm (hi k hk))]; exact e, by rw [updV_other V v (Ne.symm (hi k hk))]; exact q⟩
/-- Another operation. -/
theorem TrG.set (H : TrG W0 D m ig ia is Φ V L w) (i : Nat) (hi : ∀ k, k < m → i ≠ ig k ∧ i ≠ ia k ∧ i ≠ is k) {v : Value} : TrG W0 D m ig ia is Φ (updV V i v) (upd L i) w := by
  have a := fun k (hk : k ≠ i) => upd_other L hk
  have b := fun k (hk : k ≠ i) => updV_other V v hk
  refine ⟨H.sv, H.dice, fun k hk => ?_, fun k hk => ?_, fun k hk => ?_, fun j k hj hk hn => ?_⟩
  · obtain ⟨h1, h2, h3⟩ := hi k hk
    rw [a _ (Ne.symm h1), b _ (Ne.symm h1)]
    intro e
    obtain ⟨G, f, r⟩ := H.gk k hk e
    exact ⟨G, f, r.mono fun x _ hx => ⟨hx.1, fun hc => hx.2 ((TrD.up (fun k hk => (hi k hk).2.1)).1 hc)⟩⟩
  · obtain ⟨h1, h2, h3⟩ := hi k hk
    rw [a _ (Ne.symm h2), b _ (Ne.symm h2)]
    exact H.ak k hk
  · obtain ⟨h1, h2, h3⟩ := hi k hk
    rw [a _ (Ne.symm h3), a _ (Ne.symm h2), a _ (Ne.symm h1), b _ (Ne.symm h2), b _ (Ne.symm h1)]
    exact H.sk k hk
  · rw [a _ (Ne.symm (hi j hj).2.1), a _ (Ne.symm (hi k hk).2.1), b _ (Ne.symm (hi j hj).2.1), b _ (Ne.symm (hi k hk).2.1)]
    exact H.ne j k hj hk hn
theorem TrG.mv (H : TrG W0 D m ig ia is Φ V L w) (hD : D < W0.heap.size) (i : Nat) (hi : ∀ k, k < m → i ≠ ig k ∧ i ≠ ia k ∧ i ≠ is k) {v : Value} (hs : Sav (fun b => b = D) w w') (hd : ∃ R, DiceAt w' D R) : TrG W0 D m ig ia is Φ (updV V i v) (upd L i) w' := (H.step hD hs hd).set i hi
/-- A gift is made. -/
theorem TrG.oG (H : TrG W0 D m ig ia is Φ V L w) (hx : Ixs m ig ia is) (hD : D < W0.heap.size) (k : Nat) (hk : k < m) (hL : L (ig k) = false) {v : Value} {G : GiftD} {R' : List Int} (hR : GiftR (fun b => w.heap.size ≤ b) w' v G) (hF : Φ k G) (hd : DiceAt w' D R') (hg : w.grownBy w' (some D)) : TrG W0 D m ig ia is Φ (updV V (ig k) v) (upd L (ig k)) w' := by
  have hs : Sav (fun b => b = D) w w' := grown_save hg (fun x e => by injection e with e; exact e.symm)
  have H' := H.step hD hs ⟨_, hd⟩
  have up := fun b => TrD.up (V := V) (L := L) (v := v) (i := ig k) (fun j hj => hx.ga k hk j hj) (b := b)
  refine ⟨H'.sv, H'.dice, fun j hj e => ?_, fun j hj => ?_, fun j hj => ?_, fun i j hi hj hn => ?_⟩
  · by_cases hjk : j = k
    · subst hjk
      rw [updV_same]
      exact ⟨G, hF, hR.mono fun b hb hq => ⟨by have := H.sv.size; omega, fun hc => by have := (H.lt ((up b).1 hc)).2; omega⟩⟩
    · have hne : ig j ≠ ig k := fun e => hjk (hx.gg j hj k hk e)
      rw [upd_other L hne] at e
      rw [updV_other V v hne]
      obtain ⟨G', f, r⟩ := H'.gk j hj e
      exact ⟨G', f, r.mono fun b _ hb => ⟨hb.1, fun hc => hb.2 ((up b).1 hc)⟩⟩
  · have hne := (hx.ga k hk j hj).symm
    rw [upd_other L hne, updV_other V v hne]
    exact H'.ak j hj
  · rw [upd_other L (hx.gs k hk j hj).symm]
    intro e
    have hjk : j ≠ k := fun e2 => by
      subst e2
      rw [(H'.sk j hj e).2.1] at hL; cases hL
    have hne : ig j ≠ ig k := fun e => hjk (hx.gg j hj k hk e)
    rw [upd_other L (hx.ga k hk j hj).symm, updV_other V v (hx.ga k hk j hj).symm, upd_other L hne, updV_other V v hne]
    exact H'.sk j hj e
  · rw [upd_other L (hx.ga k hk i hi).symm, upd_other L (hx.ga k hk j hj).symm, updV_other V v (hx.ga k hk i hi).symm, updV_other V v (hx.ga k hk j hj).symm]
    exact H'.ne i j hi hj hn
/-- A variable is made. -/
theorem TrG.oA (H : TrG W0 D m ig ia is Φ V L w) (hx : Ixs m ig ia is) (k : Nat) (hk : k < m) (hL : L (ia k) = false) : TrG W0 D m ig ia is Φ (updV V (ia k) (.pointer (some ⟨w.heap.size, 0, none⟩))) (upd L (ia k)) (w.alloc (.cells #[.int .i64 0, .slice none 0 0, .slice none 0 0, .int .i64 0, .slice none 0 0] 37)) := by
  have hb := below_alloc w (.cells #[.int .i64 0, .slice none 0 0, .slice none 0 0, .int .i64 0, .slice none 0 0] 37)
  have old : ∀ b, b < w.heap.size → TrD m ia (updV V (ia k) (.pointer (some ⟨w.heap.size, 0, none⟩))) (upd L (ia k)) b → TrD m ia V L b := by
    rintro b hlt ⟨j, hj, e, q⟩
    by_cases hjk : j = k
    · subst hjk
      rw [updV_same] at q
      have := ptr_inj q; omega
    · have hne : ia j ≠ ia k := fun e => hjk (hx.aa j hj k hk e)
      rw [upd_other L hne] at e
      rw [updV_other V _ hne] at q
      exact ⟨j, hj, e, q⟩
  refine ⟨H.sv.trans (Sav.of_below hb), by obtain ⟨R, h⟩ := H.dice; exact ⟨R, h.below hb⟩, fun j hj => ?_, fun j hj e => ?_, fun j hj => ?_, fun i j hi hj hn e1 e2 g q1 q2 => ?_⟩
  · have hne := hx.ga j hj k hk
    rw [upd_other L hne, updV_other V _ hne]
    intro e
    obtain ⟨G, f, r⟩ := H.gk j hj e
    exact ⟨G, f, (r.mono (Q := fun b => W0.heap.size ≤ b ∧ ¬ TrD m ia (updV V (ia k) (.pointer (some ⟨w.heap.size, 0, none⟩))) (upd L (ia k)) b) (fun b hlt hb => ⟨hb.1, fun hc => hb.2 (old b hlt hc)⟩)).below hb⟩
  · by_cases hjk : j = k
    · subst hjk
      rw [updV_same]
      exact ⟨_, rfl, H.sv.size, _, _, _, _, _, GiftCell.new _ _ _ _ _ rfl⟩
    · have hne : ia j ≠ ia k := fun e => hjk (hx.aa j hj k hk e)
      rw [upd_other L hne] at e
      rw [updV_other V _ hne]
      obtain ⟨g, q1, q2, h, b, v, kh, kv, q3⟩ := H.ak j hj e
      exact ⟨g, q1, q2, h, b, v, kh, kv, q3.below hb⟩
  · rw [upd_other L (hx.az k hk j hj).symm]
    intro e
    have hjk : j ≠ k := fun e2 => by
      subst e2
      rw [(H.sk j hj e).1] at hL; cases hL
    have hne : ia j ≠ ia k := fun e => hjk (hx.aa j hj k hk e)
    rw [upd_other L hne, updV_other V _ hne, upd_other L (hx.ga j hj k hk), updV_other V _ (hx.ga j hj k hk)]
    obtain ⟨r1, r2, g, h, b, v, kh, kv, q1, q2, q3⟩ := H.sk j hj e
    exact ⟨r1, r2, g, h, b, v, kh, kv, q1, q2, q3.below hb⟩
  · by_cases hik : i = k
    · subst hik
      have hjk : j ≠ i := fun e => hn e.symm
      have hne : ia j ≠ ia i := fun e => hjk (hx.aa j hj i hi e)
      rw [updV_same] at q1
      rw [upd_other L hne] at e2
      rw [updV_other V _ hne] at q2
      have := ptr_inj q1
      obtain ⟨g', r1, r2, h, b, v, kh, kv, r3⟩ := H.ak j hj e2
      have := ptr_inj (r1.symm.trans q2)
      have := r3.lt
      omega
    · have hne1 : ia i ≠ ia k := fun e => hik (hx.aa i hi k hk e)
      rw [upd_other L hne1] at e1
      rw [updV_other V _ hne1] at q1
      by_cases hjk : j = k
      · subst hjk
        rw [updV_same] at q2
        have := ptr_inj q2
        obtain ⟨g', r1, r2, h, b, v, kh, kv, r3⟩ := H.ak i hi e1
        have := ptr_inj (r1.symm.trans q1)
        have := r3.lt
        omega
      · have hne2 : ia j ≠ ia k := fun e => hjk (hx.aa j hj k hk e)
        rw [upd_other L hne2] at e2
        rw [updV_other V _ hne2] at q2
        exact H.ne i j hi hj hn e1 e2 g q1 q2
/-- Literals of numbers, from block B on, stand. -/
def KpI (B : Nat) (w w' : World) : Prop := ∀ g cs, B ≤ g → w.heap[g]? = some (.cells cs 3 (0, 0)) → w'.heap[g]? = some (.cells cs 3 (0, 0))
theorem KpI.below {B : Nat} (hb : Below w.heap.size w w') : KpI B w w' := fun g _ _ h => (Below.block hb g (blk_lt h)).trans h
theorem KpI.sav {B : Nat} (hs : Sav (fun b => b = D) w w') (hD : D < B) : KpI B w w' := fun g _ hg h => (hs.block g (blk_lt h) (fun e => by have e : g = D := e; omega)).trans h
/-- A variable is filled. -/
theorem TrG.oS (H : TrG W0 D m ig ia is Φ V L w) (hx : Ixs m ig ia is) (hD : D < W0.heap.size) (k : Nat) (hk : k < m) (hG : L (ig k) = true) (hA : L (ia k) = true) : ∃ w', (Instr.storeAt 37 (V (ia k)) (V (ig k))).run Tryd.prog w = .ok () w' ∧ TrG W0 D m ig ia is Φ (updV V (is k) undef) (upd L (is k)) w' ∧ ∀ B, KpI B w w' := by
  obtain ⟨g0, q1, q2, h, b, v, kh, kv, q3⟩ := H.ak k hk hA
  obtain ⟨G, hM, hR⟩ := H.gk k hk hG
  obtain ⟨A, ca, B, cb, C, cc, ev, -⟩ := hR
  have hs := sav_fill w g0 G.h G.kh (slV A G.bx.length ca) (slV B G.wh.length cb) (slV C G.kv.length cc)
  refine ⟨_, by rw [q1, ev]; exact st_gift q3 _ _ _ _ _ _ _ _ _ _ _, ?_, fun B g cs _ h => (hs.block g (blk_lt h) (fun e => by
    have e : g = g0 := e
    subst e
    have h2 := h.symm.trans (show w.heap[g]? = _ from q3)
    injection h2 with h2
    injection h2 with h3 h4
    exact absurd h4 (by decide))).trans h⟩
  have hi : ∀ j, j < m → is k ≠ ig j ∧ is k ≠ ia j := fun j hj => ⟨(hx.gs j hj k hk).symm, (hx.az j hj k hk).symm⟩
  have up := fun b => TrD.up (V := V) (L := L) (v := undef) (i := is k) (fun j hj => (hi j hj).2) (b := b)
  refine ⟨H.sv.trans2 hs (fun b e => .inr (by omega)), by obtain ⟨R, h⟩ := H.dice; exact ⟨R, h.keep (fun j hj => hs.block j (by have := H.sv.size; omega) (fun e => by omega))⟩, fun j hj => ?_, fun j hj => ?_, fun j hj e => ?_, fun i j hi1 hj hn => ?_⟩
  · rw [upd_other L (hi j hj).1.symm, updV_other V _ (hi j hj).1.symm]
    intro e
    obtain ⟨G', f, r⟩ := H.gk j hj e
    exact ⟨G', f, (r.keep (hs.kept (fun b hb e2 => hb.2 (by have e3 : b = g0 := e2; rw [e3]; exact ⟨k, hk, hA, q1⟩)))).mono fun b _ hb => ⟨hb.1, fun hc => hb.2 ((up b).1 hc)⟩⟩
  · rw [upd_other L (hi j hj).2.symm, updV_other V _ (hi j hj).2.symm]
    intro e
    by_cases hjk : j = k
    · subst hjk
      exact ⟨g0, q1, q2, _, _, _, _, _, q3.fill _ _ _ _ _⟩
    · obtain ⟨g', r1, r2, h, b, v, kh, kv, r3⟩ := H.ak j hj e
      exact ⟨g', r1, r2, h, b, v, kh, kv, r3.sav hs (fun e2 => by have e3 : g' = g0 := e2; rw [e3] at r1; exact H.ne j k hj hk hjk e hA _ r1 q1)⟩
  · rw [upd_other L (hi j hj).2.symm, updV_other V _ (hi j hj).2.symm, upd_other L (hi j hj).1.symm, updV_other V _ (hi j hj).1.symm]
    by_cases hjk : j = k
    · subst hjk
      exact ⟨hA, hG, g0, _, _, _, _, _, q1, ev, q3.fill _ _ _ _ _⟩
    · rw [upd_other L (fun e => hjk (hx.ss j hj k hk e))] at e
      obtain ⟨e1, e2, g', h, b, v, kh, kv, r1, r2, r3⟩ := H.sk j hj e
      exact ⟨e1, e2, g', h, b, v, kh, kv, r1, r2, r3.sav hs (fun e3 => by have e4 : g' = g0 := e3; rw [e4] at r1; exact H.ne j k hj hk hjk e1 hA _ r1 q1)⟩
  · rw [upd_other L (hi i hi1).2.symm, updV_other V _ (hi i hi1).2.symm, upd_other L (hi j hj).2.symm, updV_other V _ (hi j hj).2.symm]
    exact H.ne i j hi1 hj hn
theorem TrG.fin (H : TrG W0 D m ig ia is Φ V L w) (k : Nat) (hk : k < m) (hS : L (is k) = true) : ∃ g G A ca B cb C cc, V (ia k) = .pointer (some ⟨g, 0, none⟩) ∧ W0.heap.size ≤ g ∧ Φ k G ∧ GiftCell w g G.h (slV A G.bx.length ca) (slV B G.wh.length cb) G.kh (slV C G.kv.length cc) ∧ GiftR (fun b => W0.heap.size ≤ b) w (giftV G.h (slV A G.bx.length ca) (slV B G.wh.length cb) G.kh (slV C G.kv.length cc)) G := by
  obtain ⟨hA, hG, g0, h, b, v, kh, kv, q1, q2, q3⟩ := H.sk k hk hS
  obtain ⟨G, hM, hR⟩ := H.gk k hk hG
  obtain ⟨g', r1, r2, -⟩ := H.ak k hk hA
  have e : g' = g0 := ptr_inj (r1.symm.trans q1)
  subst e
  obtain ⟨A, ca, B, cb, C, cc, ev, t1, t2, t3⟩ := hR
  obtain ⟨rfl, rfl, rfl, rfl, rfl⟩ := giftV_inj (q2.symm.trans ev)
  exact ⟨g', G, A, ca, B, cb, C, cc, q1, r2, hM, q3, A, ca, B, cb, C, cc, rfl, t1.mono (fun _ _ h => h.1), t2.mono (fun _ _ h => h.1), t3.mono (fun _ _ h => h.1)⟩
end
end Go.Proofs.YtjckpammcgeloaaDoor
