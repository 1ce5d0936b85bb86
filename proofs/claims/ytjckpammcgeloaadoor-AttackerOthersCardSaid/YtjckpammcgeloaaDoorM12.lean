/-
  AttackerOthers: the walk.
  A slice of numbers that came in reads as a list.
  Conditions: those that each theorem names.
-/
import Derived.Test.YtjckpammcgeloaaDoorM11
set_option linter.unusedVariables false
set_option linter.unusedSimpArgs false
namespace Go.Proofs.YtjckpammcgeloaaDoor
open Go.RowKit

theorem ld_plan {w : World} {x : Nat} {p n h : Int} (H : PlanCell w x p n h) : (Instr.loadAt 29 (.pointer (some ⟨x, 0, none⟩))).run Tryd.prog w = .ok (planV p n h) w := by
  have h0 := H.c0
  have h1 := H.c1
  have h2 := H.c2
  go_simp
theorem al_gift (w : World) : (Instr.alloc 37 true (.tuple #[])).run Tryd.prog w = .ok (.pointer (some ⟨w.heap.size, 0, none⟩)) (w.alloc (.cells #[.int .i64 0, .slice none 0 0, .slice none 0 0, .int .i64 0, .slice none 0 0] 37)) := by go_simp
theorem enter_gift (args : Array Value) (w : World) : (callFunc 13 args).run Tryd.prog w = .ok (.enter 13 args) w :=
  Go.MuLone.run_callFunc_enter Tryd.func13 (by kernel_rfl) rfl args w
def othPL (W0 : World) (xa xb g1 g2 g3 n a2 a5 b2 b5 c1 c3 c5 c7 vb vo wb wo : Nat) (A2 A5 B2 B5 C1 C5 : Option Addr) (m3 : Int) : List (Pr Bl) := [Pr.eq (.bool true), Pr.eq (.bool true), Pr.eq (.pointer (some ⟨xa, 1, none⟩)), Pr.eq (.slice A5 n a5), Pr.eq (.pointer (some ⟨g2, 1, none⟩)), Pr.eq (.slice A2 n a2), Pr.eq (.bool true), Pr.eq (.bool true), Pr.eq (.bool true), Pr.eq (.pointer (some ⟨xa, 2, none⟩)), Pr.eq (.slice B5 n b5), Pr.eq (.pointer (some ⟨g2, 2, none⟩)), Pr.eq (.slice B2 n b2), Pr.eq (.bool true), Pr.eq (.bool true), Pr.eq (.bool true), Pr.eq (.pointer (some ⟨xa, 3, none⟩)), Pr.eq (shV 2 (.slice C5 1 c5)), Pr.lit W0.heap.size 1 #[.int .i64 2, .slice C5 1 c5] 35, Pr.eq (.pointer (some ⟨g1, 3, none⟩)), Pr.eq (shV 2 (.slice C1 1 c1)), Pr.lit W0.heap.size 1 #[.int .i64 2, .slice C1 1 c1] 35, Pr.eq (.bool true), Pr.eq (.bool true), Pr.eq (.bool true), Pr.eq (.pointer (some ⟨xb, 3, none⟩)), Pr.eq (.pointer (some ⟨xb, 4, none⟩)), Pr.eq (.slice (some ⟨vb, vo, none⟩) 1 c7), Pr.eq (.pointer (some ⟨vb, vo, none⟩)), Pr.eq (.int .i64 m3), Pr.eq (.pointer (some ⟨g3, 3, none⟩)), Pr.eq (.pointer (some ⟨g3, 4, none⟩)), Pr.eq (.slice (some ⟨wb, wo, none⟩) 1 c3), Pr.eq (.pointer (some ⟨wb, wo, none⟩)), Pr.eq (.int .i64 m3), Pr.eq (.bool true), Pr.eq (.bool true), Pr.eq (.bool true)]
set_option maxRecDepth 100000 in
set_option maxHeartbeats 16000000 in
theorem attackerOthers_walk (A0 : Option Addr) (L0 : List Int) (c0 : Nat) (w : World) (hB : Bases w) (hl0 : L0.length ≤ maxLen) (hI0 : IntsAt w A0 L0) (_ : ∀ n ∈ L0, -9223372036854775808 ≤ n ∧ n ≤ 9223372036854775807) :
    Calls Tryd.prog 6 #[.slice A0 L0.length c0] w (RetB (.bool true) w) := by
  have HB := Lib.hid hB
  clear hB
  by_cases hlight : (L0.length : Int) ≤ 500
  · have hL := light_any A0 L0.length c0 w
    rw [decide_eq_true hlight] at hL
    have HLt := Lib.hid hL
    clear hL hlight
    go_enter Tryd.func6, Tryd.ntmps6
    go_wp2_with fail
    refine ret_pure HLt.out ?_
    clear HLt
    go_wp2_with fail
    refine (roll_any A0 L0 c0 _ hl0 hI0).mono ?_
    rintro e w1 ⟨D, rfl, hDs, hD, hb1⟩
    have hE1 : Env w w1 D L0 := ⟨hD, hDs, hb1⟩
    clear hI0 hD hb1
    go_wp2_with fail
    refine gen_calls fun w2 hw2 => ?_
    have hpc : PlanCell w2 w1.heap.size 500000003 2 4 := by rw [hw2]; exact PlanCell.new _ _ _ rfl
    have hE2 : Env w w2 D L0 := hE1.mv (by rw [hw2]; exact below_alloc _ _)
    have hxD : ¬ w1.heap.size = D := by have := hE1.lt; omega
    generalize w1.heap.size = px at *
    clear hw2 hE1
    refine (next_any D L0 4 _ hE2.dice (by omega)).mono ?_
    rintro e w3 ⟨rfl, hD3, hg3⟩
    obtain ⟨n1, n2⟩ := nextV_range L0 4 (by omega)
    generalize nextV L0 4 = n0 at *
    obtain ⟨n, rfl⟩ := Int.eq_ofNat_of_zero_le n1
    have hE3 := hE2.next hD3 hg3
    have HPL := Lib.hid (show PlanCell w3 px 500000003 2 4 from (hg3.block px (blk_lt hpc) (fun e => by injection e with e; omega)).trans hpc)
    have hn4 : n < 4 := by omega
    have hpD : ¬ (px = D) := hxD
    have hDW : D < w3.heap.size := hE3.lt
    have HE3 := Lib.hid hE3
    clear hpc hE2 hD3 hg3 n1 n2 hE3
    go_wp2_with fail
    refine wp_region_J2 (Tr w3 D 500000003 n 2 4 2 2 3) (by kernel_rfl) (by kernel_rfl) (by kernel_rfl) ?_ ?_ ?_
    case refine_1 => exact fun V => Tr.start ⟨_, HE3.out.dice⟩ V
    case refine_2 =>
      refine JSteps.cons (fun V Ld a W hLi hpre hR hI K hK => ?_) ?_
      · have e := (hR.old 3 (by kernel_rfl)).trans (show _ = Value.pointer (some ⟨D, 0, none⟩) from rfl)
        exact J_move rfl (.tmp 3) rfl (hK _ _ { hI with d0 := fun _ => e })
      refine JSteps.cons (fun V Ld a W hLi hpre hR hI K hK => ?_) ?_
      · have e := (hR.old 4 (by kernel_rfl)).trans (show _ = Value.pointer (some ⟨px, 0, none⟩) from rfl)
        exact J_load rfl _ (.tmp 4) rfl (by rw [e]; exact ld_plan ((hI.sv.block px (blk_lt HPL.out) hpD).trans HPL.out)) (hK _ _ { hI with p0 := fun _ => rfl })
      refine JSteps.cons (fun V Ld a W hLi hpre hR hI K hK => ?_) ?_
      · have e := (hR.old 5 (by kernel_rfl)).trans (show _ = Value.int .i64 (n : Int) from rfl)
        exact J_move rfl (.tmp 5) rfl (hK _ _ { hI with n0 := fun _ => e })
      refine JSteps.cons (fun V Ld a W hLi hpre hR hI K hK => ?_) ?_
      · have p0 : Ld 0 = true := hpre 0 (List.mem_of_elem_eq_true (by kernel_rfl))
        have p1 : Ld 1 = true := hpre 1 (List.mem_of_elem_eq_true (by kernel_rfl))
        have p2 : Ld 2 = true := hpre 2 (List.mem_of_elem_eq_true (by kernel_rfl))
        have f0 := (hR.ev 0 rfl rfl p0).trans (hI.d0 p0)
        have f1 := (hR.ev 1 rfl rfl p1).trans (hI.p0 p1)
        have f2 := (hR.ev 2 rfl rfl p2).trans (hI.n0 p2)
        obtain ⟨R, hd⟩ := hI.dice
        refine J_call rfl _ _ _ rfl enter_gift (by simp only [List.map_toArray, List.map_cons, List.map_nil, f0, f1, f2]; rfl) (gift_any D R 500000003 2 4 2 n W hd (by omega) (by omega) (by omega)) ?_
        rintro e w' ⟨v, G, R', rfl, hGR, hM, hd', hg⟩
        exact ⟨_, rfl, hK _ _ (hI.oG0 hDW hLi hGR hM hd' hg)⟩
      refine JSteps.cons (fun V Ld a W hLi hpre hR hI K hK => ?_) ?_
      · have e := (hR.old 3 (by kernel_rfl)).trans (show _ = Value.pointer (some ⟨D, 0, none⟩) from rfl)
        exact J_move rfl (.tmp 3) rfl (hK _ _ { hI with d1 := fun _ => e })
      refine JSteps.cons (fun V Ld a W hLi hpre hR hI K hK => ?_) ?_
      · have e := (hR.old 4 (by kernel_rfl)).trans (show _ = Value.pointer (some ⟨px, 0, none⟩) from rfl)
        exact J_load rfl _ (.tmp 4) rfl (by rw [e]; exact ld_plan ((hI.sv.block px (blk_lt HPL.out) hpD).trans HPL.out)) (hK _ _ { hI with p1 := fun _ => rfl })
      refine JSteps.cons (fun V Ld a W hLi hpre hR hI K hK => ?_) ?_
      · have e := (hR.old 5 (by kernel_rfl)).trans (show _ = Value.int .i64 (n : Int) from rfl)
        exact J_move rfl (.tmp 5) rfl (hK _ _ { hI with n1 := fun _ => e })
      refine JSteps.cons (fun V Ld a W hLi hpre hR hI K hK => ?_) ?_
      · have p4 : Ld 4 = true := hpre 4 (List.mem_of_elem_eq_true (by kernel_rfl))
        have p5 : Ld 5 = true := hpre 5 (List.mem_of_elem_eq_true (by kernel_rfl))
        have p6 : Ld 6 = true := hpre 6 (List.mem_of_elem_eq_true (by kernel_rfl))
        have f0 := (hR.ev 4 rfl rfl p4).trans (hI.d1 p4)
        have f1 := (hR.ev 5 rfl rfl p5).trans (hI.p1 p5)
        have f2 := (hR.ev 6 rfl rfl p6).trans (hI.n1 p6)
        obtain ⟨R, hd⟩ := hI.dice
        refine J_call rfl _ _ _ rfl enter_gift (by simp only [List.map_toArray, List.map_cons, List.map_nil, f0, f1, f2]; rfl) (gift_any D R 500000003 2 4 2 n W hd (by omega) (by omega) (by omega)) ?_
        rintro e w' ⟨v, G, R', rfl, hGR, hM, hd', hg⟩
        exact ⟨_, rfl, hK _ _ (hI.oG1 hDW hLi hGR hM hd' hg)⟩
      refine JSteps.cons (fun V Ld a W hLi hpre hR hI K hK => ?_) ?_
      · have e := (hR.old 3 (by kernel_rfl)).trans (show _ = Value.pointer (some ⟨D, 0, none⟩) from rfl)
        exact J_move rfl (.tmp 3) rfl (hK _ _ { hI with d2 := fun _ => e })
      refine JSteps.cons (fun V Ld a W hLi hpre hR hI K hK => ?_) ?_
      · have e := (hR.old 4 (by kernel_rfl)).trans (show _ = Value.pointer (some ⟨px, 0, none⟩) from rfl)
        exact J_load rfl _ (.tmp 4) rfl (by rw [e]; exact ld_plan ((hI.sv.block px (blk_lt HPL.out) hpD).trans HPL.out)) (hK _ _ { hI with p2 := fun _ => rfl })
      refine JSteps.cons (fun V Ld a W hLi hpre hR hI K hK => ?_) ?_
      · have e := (hR.old 5 (by kernel_rfl)).trans (show _ = Value.int .i64 (n : Int) from rfl)
        exact J_move rfl (.tmp 5) rfl (hK _ _ { hI with n2 := fun _ => e })
      refine JSteps.cons (fun V Ld a W hLi hpre hR hI K hK => ?_) ?_
      · have p8 : Ld 8 = true := hpre 8 (List.mem_of_elem_eq_true (by kernel_rfl))
        have p9 : Ld 9 = true := hpre 9 (List.mem_of_elem_eq_true (by kernel_rfl))
        have p10 : Ld 10 = true := hpre 10 (List.mem_of_elem_eq_true (by kernel_rfl))
        have f0 := (hR.ev 8 rfl rfl p8).trans (hI.d2 p8)
        have f1 := (hR.ev 9 rfl rfl p9).trans (hI.p2 p9)
        have f2 := (hR.ev 10 rfl rfl p10).trans (hI.n2 p10)
        obtain ⟨R, hd⟩ := hI.dice
        refine J_call rfl _ _ _ rfl enter_gift (by simp only [List.map_toArray, List.map_cons, List.map_nil, f0, f1, f2]; rfl) (gift_any D R 500000003 2 4 3 n W hd (by omega) (by omega) (by omega)) ?_
        rintro e w' ⟨v, G, R', rfl, hGR, hM, hd', hg⟩
        exact ⟨_, rfl, hK _ _ (hI.oG2 hDW hLi hGR hM hd' hg)⟩
      refine JSteps.cons (fun V Ld a W hLi hpre hR hI K hK => ?_) ?_
      · exact J_alloc rfl _ rfl (al_gift W) (hK _ _ (hI.oA0 hLi))
      refine JSteps.cons (fun V Ld a W hLi hpre hR hI K hK => ?_) ?_
      · exact J_alloc rfl _ rfl (al_gift W) (hK _ _ (hI.oA1 hLi))
      refine JSteps.cons (fun V Ld a W hLi hpre hR hI K hK => ?_) ?_
      · exact J_alloc rfl _ rfl (al_gift W) (hK _ _ (hI.oA2 hLi))
      refine JSteps.cons (fun V Ld a W hLi hpre hR hI K hK => ?_) ?_
      · have p12 : Ld 12 = true := hpre 12 (List.mem_of_elem_eq_true (by kernel_rfl))
        have p3 : Ld 3 = true := hpre 3 (List.mem_of_elem_eq_true (by kernel_rfl))
        obtain ⟨w', hs, hI'⟩ := hI.oS0 hDW p3 p12
        exact J_store rfl _ (.tmp 6) (.tmp 28) rfl (by rw [hR.ev 12 rfl rfl p12, hR.ev 3 rfl rfl p3]; exact hs) (hK _ _ hI')
      refine JSteps.cons (fun V Ld a W hLi hpre hR hI K hK => ?_) ?_
      · have p13 : Ld 13 = true := hpre 13 (List.mem_of_elem_eq_true (by kernel_rfl))
        have p7 : Ld 7 = true := hpre 7 (List.mem_of_elem_eq_true (by kernel_rfl))
        obtain ⟨w', hs, hI'⟩ := hI.oS1 hDW p7 p13
        exact J_store rfl _ (.tmp 7) (.tmp 32) rfl (by rw [hR.ev 13 rfl rfl p13, hR.ev 7 rfl rfl p7]; exact hs) (hK _ _ hI')
      refine JSteps.cons (fun V Ld a W hLi hpre hR hI K hK => ?_) trivial
      · have p14 : Ld 14 = true := hpre 14 (List.mem_of_elem_eq_true (by kernel_rfl))
        have p11 : Ld 11 = true := hpre 11 (List.mem_of_elem_eq_true (by kernel_rfl))
        obtain ⟨w', hs, hI'⟩ := hI.oS2 hDW p11 p14
        exact J_store rfl _ (.tmp 8) (.tmp 36) rfl (by rw [hR.ev 14 rfl rfl p14, hR.ev 11 rfl rfl p11]; exact hs) (hK _ _ hI')
    case refine_3 =>
      intro V Ld w4 hLd hI
      obtain ⟨g1, e12, l1, F1⟩ := hI.f0 (hLd 15 (by decide))
      obtain ⟨g2, e13, l2, F2⟩ := hI.f1 (hLd 16 (by decide))
      obtain ⟨g3, e14, l3, F3⟩ := hI.f2 (hLd 17 (by decide))
      obtain ⟨A1, a1, B1, b1, C1, c1, S1, T1, m1, K1, M1, R1⟩ := F1.open_
      obtain ⟨A2, a2, B2, b2, C2, c2, S2, T2, m2, K2, M2, R2⟩ := F2.open_
      obtain ⟨A3, a3, B3, b3, C3, c3, S3, T3, m3, K3, M3, R3⟩ := F3.open_
      have HB4 := Lib.hid (HE3.out.below.trans (hI.sv.below w.heap.size HE3.out.below.size (fun k _ e => by have e' : k = D := e; omega)))
      replace HPL := Lib.hid (show PlanCell w4 px 500000003 2 4 from (hI.sv.block px (blk_lt HPL.out) hpD).trans HPL.out)
      have HK1 := Lib.hid K1
      have HK2 := Lib.hid K2
      have HK3 := Lib.hid K3
      have HR1 := Lib.hid (R1.mono (Q := fun _ => True) (fun _ _ _ => trivial))
      have HR2 := Lib.hid (R2.mono (Q := fun _ => True) (fun _ _ _ => trivial))
      have HR3 := Lib.hid (R3.mono (Q := fun _ => True) (fun _ _ _ => trivial))
      have HM1 := Lib.hid M1
      have HM2 := Lib.hid M2
      have HM3 := Lib.hid M3
      clear hI hLd K1 K2 K3 R1 R2 R3 M1 M2 M3 F1 F2 F3
      simp only [finL, putL, Act.put, Nat.reduceAdd]
      rw [e12, e13, e14]
      clear e12 e13 e14
      generalize V 0 = q0
      generalize V 1 = q1
      generalize V 2 = q2
      generalize V 3 = q3
      generalize V 4 = q4
      generalize V 5 = q5
      generalize V 6 = q6
      generalize V 7 = q7
      generalize V 8 = q8
      generalize V 9 = q9
      generalize V 10 = q10
      generalize V 11 = q11
      clear V
      simp only [List.setIfInBounds_toArray, List.set_cons_succ, List.set_cons_zero]
      have HN := Lib.hid (show n ≤ 3 by omega)
      clear hn4 HE3
      have HBS := Lib.hid (HB.out.below HB4.out HB.out.1)
      have x10 := HK1.out.c0
      have x11 := HK1.out.c1
      have x12 := HK1.out.c2
      have x13 := HK1.out.c3
      have x14 := HK1.out.c4
      have lx1 := HK1.out.lt
      have x20 := HK2.out.c0
      have x21 := HK2.out.c1
      have x22 := HK2.out.c2
      have x23 := HK2.out.c3
      have x24 := HK2.out.c4
      have lx2 := HK2.out.lt
      have x30 := HK3.out.c0
      have x31 := HK3.out.c1
      have x32 := HK3.out.c2
      have x33 := HK3.out.c3
      have x34 := HK3.out.c4
      have lx3 := HK3.out.lt
      have p0 := HPL.out.c0
      have p1 := HPL.out.c1
      have p2 := HPL.out.c2
      have lp := HPL.out.lt
      go_wp2_with fail
      refine (spoil_any 500000003 2 4 2 3 0 _ _ _ ⟨2, S1, T1, 2, [m1]⟩ ⟨2, S2, T2, 2, [m2]⟩ ⟨3, S3, T3, 3, [m3]⟩ w4 HBS.out (by omega) (by omega) HR1.out HR2.out HR3.out (gm_small HM1.out (by have := HN.out; omega)) (gm_small HM2.out (by have := HN.out; omega)) (gm_small HM3.out (by have := HN.out; omega))).mono ?_
      rintro e w5 ⟨v, rfl, hG5, hb5⟩
      obtain ⟨f1, f2, f3⟩ := sp_old (G := ⟨2, S1, T1, 2, [m1]⟩) (O := ⟨2, S2, T2, 2, [m2]⟩) (X := ⟨3, S3, T3, 3, [m3]⟩) rfl
      rw [f3] at hG5
      rw [f1, f2]
      obtain ⟨A5, a5, B5, b5, C5, c5, rfl, q1, q2, q3⟩ := hG5.open_ HM2.out.bl HM2.out.wl (rfl : [m1].length = 1)
      have HQ1 := Lib.hid (q1.any)
      have HQ2 := Lib.hid (q2.any)
      have HQ3 := Lib.hid q3
      clear f1 f2 f3 hG5 q1 q2 q3
      clear x10 x11 x12 x13 x14 x20 x21 x22 x23 x24 x30 x31 x32 x33 x34 lx1 lx2 lx3 p0 p1 p2 lp
      replace HK1 := Lib.hid (HK1.out.below hb5)
      replace HK2 := Lib.hid (HK2.out.below hb5)
      replace HK3 := Lib.hid (HK3.out.below hb5)
      replace HR1 := Lib.hid (HR1.out.below hb5)
      replace HR2 := Lib.hid (HR2.out.below hb5)
      replace HR3 := Lib.hid (HR3.out.below hb5)
      replace HPL := Lib.hid (HPL.out.below hb5)
      replace HB4 := Lib.hid (below_trans HB4.out hb5)
      replace HBS := Lib.hid (HB.out.below HB4.out HB.out.1)
      clear hb5
      have x10 := HK1.out.c0
      have x11 := HK1.out.c1
      have x12 := HK1.out.c2
      have x13 := HK1.out.c3
      have x14 := HK1.out.c4
      have lx1 := HK1.out.lt
      have x20 := HK2.out.c0
      have x21 := HK2.out.c1
      have x22 := HK2.out.c2
      have x23 := HK2.out.c3
      have x24 := HK2.out.c4
      have lx2 := HK2.out.lt
      have x30 := HK3.out.c0
      have x31 := HK3.out.c1
      have x32 := HK3.out.c2
      have x33 := HK3.out.c3
      have x34 := HK3.out.c4
      have lx3 := HK3.out.lt
      have p0 := HPL.out.c0
      have p1 := HPL.out.c1
      have p2 := HPL.out.c2
      have lp := HPL.out.lt
      go_wp2_with fail
      refine gen_calls fun w6 hw6 => ?_
      have hb6 : Below w5.heap.size w5 w6 := by rw [hw6]; exact below_alloc _ _
      have HKa := Lib.hid (show GiftCell w6 w5.heap.size 2 (.slice A5 n a5) (.slice B5 n b5) 2 (.slice C5 1 c5) from by rw [hw6]; exact GiftCell.new _ _ _ _ _ rfl)
      clear hw6
      clear x10 x11 x12 x13 x14 x20 x21 x22 x23 x24 x30 x31 x32 x33 x34 lx1 lx2 lx3 p0 p1 p2 lp
      replace HK1 := Lib.hid (HK1.out.below hb6)
      replace HK2 := Lib.hid (HK2.out.below hb6)
      replace HK3 := Lib.hid (HK3.out.below hb6)
      replace HR1 := Lib.hid (HR1.out.below hb6)
      replace HR2 := Lib.hid (HR2.out.below hb6)
      replace HR3 := Lib.hid (HR3.out.below hb6)
      replace HPL := Lib.hid (HPL.out.below hb6)
      replace HQ1 := Lib.hid (HQ1.out.below hb6)
      replace HQ2 := Lib.hid (HQ2.out.below hb6)
      replace HB4 := Lib.hid (below_trans HB4.out hb6)
      replace HBS := Lib.hid (HB.out.below HB4.out HB.out.1)
      replace HQ3 := Lib.hid (HQ3.out.keep (Kept.below hb6))
      clear hb6
      generalize w5.heap.size = xa at *
      refine (spoil_any 500000003 2 4 2 5 0 _ _ _ ⟨2, S1, T1, 2, [m1]⟩ ⟨2, S2, T2, 2, [m2]⟩ ⟨3, S3, T3, 3, [m3]⟩ w6 HBS.out (by omega) (by omega) HR1.out HR2.out HR3.out (gm_small HM1.out (by have := HN.out; omega)) (gm_small HM2.out (by have := HN.out; omega)) (gm_small HM3.out (by have := HN.out; omega))).mono ?_
      rintro e w7 ⟨v, rfl, hG7, hb7⟩
      obtain ⟨f1, f2, f3⟩ := sp_cpy (G := ⟨2, S1, T1, 2, [m1]⟩) (O := ⟨2, S2, T2, 2, [m2]⟩) (X := ⟨3, S3, T3, 3, [m3]⟩) rfl
      rw [f3] at hG7
      rw [f1, f2]
      obtain ⟨A7, a7, B7, b7, C7, c7, rfl, q1, q2, q3⟩ := hG7.open_ (n := n) (m := n) (by rw [List.length_map]; exact HM3.out.bl) (by rw [List.length_map]; exact HM3.out.wl) (rfl : [m3].length = 1)
      have HU1 := Lib.hid (q1.any)
      have HU2 := Lib.hid (q2.any)
      have HU3 := Lib.hid q3
      clear f1 f2 f3 hG7 q1 q2 q3
      replace HK1 := Lib.hid (HK1.out.below hb7)
      replace HK2 := Lib.hid (HK2.out.below hb7)
      replace HK3 := Lib.hid (HK3.out.below hb7)
      replace HR1 := Lib.hid (HR1.out.below hb7)
      replace HR2 := Lib.hid (HR2.out.below hb7)
      replace HR3 := Lib.hid (HR3.out.below hb7)
      replace HPL := Lib.hid (HPL.out.below hb7)
      replace HQ1 := Lib.hid (HQ1.out.below hb7)
      replace HQ2 := Lib.hid (HQ2.out.below hb7)
      replace HKa := Lib.hid (HKa.out.below hb7)
      replace HB4 := Lib.hid (below_trans HB4.out hb7)
      replace HBS := Lib.hid (HB.out.below HB4.out HB.out.1)
      replace HQ3 := Lib.hid (HQ3.out.keep (Kept.below hb7))
      clear hb7
      go_upto_region 9 with fail
      refine gen_world fun w8 hw8 => ?_
      have hb8 : Below w7.heap.size w7 w8 := by rw [hw8]; exact below_alloc _ _
      have HKb := Lib.hid (show GiftCell w8 w7.heap.size 2 (.slice A7 n a7) (.slice B7 n b7) 2 (.slice C7 1 c7) from by rw [hw8]; exact GiftCell.new _ _ _ _ _ rfl)
      clear hw8
      replace HK1 := Lib.hid (HK1.out.below hb8)
      replace HK2 := Lib.hid (HK2.out.below hb8)
      replace HK3 := Lib.hid (HK3.out.below hb8)
      replace HR1 := Lib.hid (HR1.out.below hb8)
      replace HR2 := Lib.hid (HR2.out.below hb8)
      replace HR3 := Lib.hid (HR3.out.below hb8)
      replace HPL := Lib.hid (HPL.out.below hb8)
      replace HQ1 := Lib.hid (HQ1.out.below hb8)
      replace HQ2 := Lib.hid (HQ2.out.below hb8)
      replace HKa := Lib.hid (HKa.out.below hb8)
      replace HU1 := Lib.hid (HU1.out.below hb8)
      replace HU2 := Lib.hid (HU2.out.below hb8)
      replace HB4 := Lib.hid (below_trans HB4.out hb8)
      replace HBS := Lib.hid (HB.out.below HB4.out HB.out.1)
      replace HQ3 := Lib.hid (HQ3.out.keep (Kept.below hb8))
      replace HU3 := Lib.hid (HU3.out.keep (Kept.below hb8))
      clear hb8
      generalize w7.heap.size = xb at *
      have ya0 := HKa.out.c0
      have yb0 := HKb.out.c0
      have yb1 := HKb.out.c1
      have yb2 := HKb.out.c2
      have yb4 := HKb.out.c4
      go_wp2_with fail
      clear ya0 yb0 yb1 yb2 yb4
      go_loopw [15] (fun i wr => ∃ k : Nat, k ≤ n ∧ i = .int .i64 k ∧ Below w8.heap.size w8 wr) (fun i _ => n - (intOf i).toNat)
      case atStart => exact ⟨0, Nat.zero_le _, rfl, Below.refl _ _⟩
      case round =>
        obtain ⟨k, hk, rfl, hbr⟩ := hrel
        have HBR := Lib.hid hbr
        by_cases hkn : k < n
        · have i0 : (k : Int) < (n : Int) := by omega
          have i1 : (0 : Int) ≤ (k : Int) := by omega
          have hn3 : n ≤ 3 := HN.out
          obtain ⟨b1', o1', D1, d1, rfl, lt1, -, s10, -, -⟩ := (HU1.out.below HBR.out).one (k := k) (by rw [List.length_map]; exact HM3.out.bl ▸ hkn)
          obtain ⟨b2', o2', D2, d2, rfl, lt2, -, s20, s21, s22⟩ := (HU2.out.below HBR.out).one (k := k) (by rw [List.length_map]; exact HM3.out.wl ▸ hkn)
          obtain ⟨A3', a3', B3', b3', C3', c3', ev, -, r32, -⟩ := HR3.out
          obtain ⟨-, -, -, -, -, -, r33, -⟩ := gift_cell_read (HR3.out.below HBR.out)
          obtain ⟨b3', o3', D3, d3, rfl, lt3, -, -, s31, s32⟩ := r33.one (k := k) (by exact HM3.out.wl ▸ hkn)
          rw [hS_name (by exact HM3.out.bl ▸ hkn)] at s10
          rw [hS_name (by exact HM3.out.wl ▸ hkn)] at s20
          rw [vS_name] at s21 s22
          have e1 := (HM3.out.wv k hkn).1
          rw [show (vS T3 k).length = 1 from e1] at s21 s31
          obtain ⟨b4, o4, rfl, lt4, s23⟩ := s22.one (by rw [show (vS T3 k).length = 1 from e1]; omega)
          obtain ⟨b5', o5, rfl, lt5, s33⟩ := s32.one (by rw [show (vS T3 k).length = 1 from e1]; omega)
          generalize nth (vS T3 k) 0 = y at *
          clear ev r32 r33 s22 s32 e1
          have y1 := (HKb.out.below HBR.out).c1
          have y2 := (HKb.out.below HBR.out).c2
          have z2 := (HK3.out.below HBR.out).c2
          clear hbr
          go_wp2_with fail
          go_quiet (fail)
          go_wp2_with fail
          go_roundw
          case rel => exact ⟨k + 1, by omega, by go_num, below_drewN HBR.out _⟩
          case measure => simp [intOf]; omega
        · obtain rfl : n = k := by omega
          have i0 : ¬ (n : Int) < (n : Int) := by omega
          go_wp2_with fail
          clear i0 hkn hk
          refine gen_world fun w0 hw0 => ?_
          have hb0 : Below w8.heap.size w8 w0 := by rw [hw0]; exact HBR.out
          clear hw0 hbr HBR
          have za := HKa.out.below hb0
          have zb := HKb.out.below hb0
          have z1 := HK1.out.below hb0
          have z2 := HK2.out.below hb0
          have z3 := HK3.out.below hb0
          obtain ⟨-, -, -, -, -, r21, r22, -⟩ := gift_cell_read (HR2.out.below hb0)
          obtain ⟨-, -, -, -, -, -, -, r13⟩ := gift_cell_read (HR1.out.below hb0)
          obtain ⟨-, -, -, -, -, -, -, r33⟩ := gift_cell_read (HR3.out.below hb0)
          have HZ21 := Lib.hid r21
          have HZ22 := Lib.hid r22
          have HZ13 := Lib.hid r13
          obtain ⟨vb, vo, rfl, lvb, zvb⟩ := (HU3.out.keep (Kept.below hb0)).one (by simp)
          obtain ⟨wb, wo, rfl, lwb, zwb⟩ := r33.one (by simp)
          replace HQ1 := Lib.hid (HQ1.out.below hb0)
          replace HQ2 := Lib.hid (HQ2.out.below hb0)
          replace HQ3 := Lib.hid (HQ3.out.keep (Kept.below hb0))
          replace HB4 := Lib.hid (below_trans HB4.out hb0)
          replace HBS := Lib.hid (HB.out.below HB4.out HB.out.1)
          have za1 := za.c1
          have za2 := za.c2
          have za3 := za.c3
          have za4 := za.c4
          have lza := za.lt
          have zb4 := zb.c4
          have lzb := zb.lt
          have z13 := z1.c3
          have z14 := z1.c4
          have lz1 := z1.lt
          have z21 := z2.c1
          have z22 := z2.c2
          have lz2 := z2.lt
          have z34 := z3.c4
          have lz3 := z3.lt
          replace zvb : w0.cell? ⟨vb, vo, none⟩ = some (.int .i64 m3) := zvb
          replace zwb : w0.cell? ⟨wb, wo, none⟩ = some (.int .i64 m3) := zwb
          clear r21 r22 r13 r33 za zb z1 z2 z3 hb0 HU1 HU2 HU3 HKa HKb HK1 HK2 HK3 HR1 HR2 HR3 HPL
          refine wp_region_J2 (GI (othPL w0 xa xb g1 g2 g3 n a2 a5 b2 b5 c1 c3 c5 c7 vb vo wb wo A2 A5 B2 B5 C1 C5 m3) (fun w' => Below w0.heap.size w0 w')) (by kernel_rfl) (by kernel_rfl) (by kernel_rfl) ?_ ?_ ?_
          case refine_1 => exact fun V => GI.start ((Below.refl _ _).drew) V
          case refine_2 =>
            refine JSteps.cons (fun V Ld a W hLi hpre hR hI K hK => ?_) ?_
            · refine J_call rfl _ _ _ rfl enter_awake42 (by simp only [List.map_toArray, List.map_cons, List.map_nil]) (awake42 W (HBS.out.below hI.st HBS.out.1)) ?_
              rintro e w' ⟨rfl, hb⟩
              exact ⟨_, rfl, hK _ _ (hI.put (R := Bl) hb (below_trans hI.st hb) 0 rfl rfl)⟩
            refine JSteps.cons (fun V Ld a W hLi hpre hR hI K hK => ?_) ?_
            · have p0 : Ld 0 = true := hpre 0 (List.mem_of_elem_eq_true (by kernel_rfl))
              have f0 := (hR.ev 0 rfl rfl p0).trans (hI.val 0 _ rfl p0)
              exact G_move rfl (.tmp 142) rfl f0 (hK _ _ (hI.put0 1 rfl rfl))
            refine JSteps.cons (fun V Ld a W hLi hpre hR hI K hK => ?_) ?_
            · have pg1 : Ld 1 = true := hpre 1 (List.mem_of_elem_eq_true (by kernel_rfl))
              refine G_g (hR.want' 1 rfl rfl rfl pg1 (hI.val 1 _ rfl pg1)) ?_
              have o9 := (hR.old 9 (by kernel_rfl)).trans (show _ = Value.pointer (some ⟨xa, 0, none⟩) from rfl)
              exact J_fieldAddr rfl _ (.tmp 9) 1 rfl (by rw [o9]; go_simp) (hK _ _ (hI.put0 2 rfl rfl))
            refine JSteps.cons (fun V Ld a W hLi hpre hR hI K hK => ?_) ?_
            · have pg1 : Ld 1 = true := hpre 1 (List.mem_of_elem_eq_true (by kernel_rfl))
              refine G_g (hR.want' 1 rfl rfl rfl pg1 (hI.val 1 _ rfl pg1)) ?_
              have p2 : Ld 2 = true := hpre 2 (List.mem_of_elem_eq_true (by kernel_rfl))
              have f2 := (hR.ev 2 rfl rfl p2).trans (hI.val 2 _ rfl p2)
              have c0 := (hI.st.cell lza).trans za1
              exact J_load rfl _ (.tmp 144) rfl (by rw [f2]; go_simp) (hK _ _ (hI.put0 3 rfl rfl))
            refine JSteps.cons (fun V Ld a W hLi hpre hR hI K hK => ?_) ?_
            · have pg1 : Ld 1 = true := hpre 1 (List.mem_of_elem_eq_true (by kernel_rfl))
              refine G_g (hR.want' 1 rfl rfl rfl pg1 (hI.val 1 _ rfl pg1)) ?_
              have o7 := (hR.old 7 (by kernel_rfl)).trans (show _ = Value.pointer (some ⟨g2, 0, none⟩) from rfl)
              exact J_fieldAddr rfl _ (.tmp 7) 1 rfl (by rw [o7]; go_simp) (hK _ _ (hI.put0 4 rfl rfl))
            refine JSteps.cons (fun V Ld a W hLi hpre hR hI K hK => ?_) ?_
            · have pg1 : Ld 1 = true := hpre 1 (List.mem_of_elem_eq_true (by kernel_rfl))
              refine G_g (hR.want' 1 rfl rfl rfl pg1 (hI.val 1 _ rfl pg1)) ?_
              have p4 : Ld 4 = true := hpre 4 (List.mem_of_elem_eq_true (by kernel_rfl))
              have f4 := (hR.ev 4 rfl rfl p4).trans (hI.val 4 _ rfl p4)
              have c0 := (hI.st.cell lz2).trans z21
              exact J_load rfl _ (.tmp 146) rfl (by rw [f4]; go_simp) (hK _ _ (hI.put0 5 rfl rfl))
            refine JSteps.cons (fun V Ld a W hLi hpre hR hI K hK => ?_) ?_
            · have pg1 : Ld 1 = true := hpre 1 (List.mem_of_elem_eq_true (by kernel_rfl))
              refine G_g (hR.want' 1 rfl rfl rfl pg1 (hI.val 1 _ rfl pg1)) ?_
              have p3 : Ld 3 = true := hpre 3 (List.mem_of_elem_eq_true (by kernel_rfl))
              have f3 := (hR.ev 3 rfl rfl p3).trans (hI.val 3 _ rfl p3)
              have p5 : Ld 5 = true := hpre 5 (List.mem_of_elem_eq_true (by kernel_rfl))
              have f5 := (hR.ev 5 rfl rfl p5).trans (hI.val 5 _ rfl p5)
              refine J_call rfl _ _ _ rfl enter_same06 (by simp only [List.map_toArray, List.map_cons, List.map_nil, f3, f5]) (same_self A5 A2 S2 a5 a2 n W (HQ1.out.below hI.st) (HZ21.out.below hI.st) (gm_small HM2.out (by have := HN.out; omega)).b HM2.out.bl (by have := HN.out; omega)) ?_
              rintro e w' ⟨rfl, hb⟩
              exact ⟨_, rfl, hK _ _ (hI.put (R := Bl) hb (below_trans hI.st hb) 6 rfl rfl)⟩
            refine JSteps.cons (fun V Ld a W hLi hpre hR hI K hK => ?_) ?_
            · have p1 : Ld 1 = true := hpre 1 (List.mem_of_elem_eq_true (by kernel_rfl))
              have f1 := (hR.ev 1 rfl rfl p1).trans (hI.val 1 _ rfl p1)
              have p6 : Ld 6 = true := hpre 6 (List.mem_of_elem_eq_true (by kernel_rfl))
              have f6 := (hR.ev 6 rfl rfl p6).trans (hI.val 6 _ rfl p6)
              exact G_pick rfl (.tmp 143) (.tmp 148) (.const (.bool false)) rfl f1 (show _ = _ from f6) (hK _ _ (hI.put0 7 rfl rfl))
            refine JSteps.cons (fun V Ld a W hLi hpre hR hI K hK => ?_) ?_
            · have p7 : Ld 7 = true := hpre 7 (List.mem_of_elem_eq_true (by kernel_rfl))
              have f7 := (hR.ev 7 rfl rfl p7).trans (hI.val 7 _ rfl p7)
              exact G_move rfl (.tmp 149) rfl f7 (hK _ _ (hI.put0 8 rfl rfl))
            refine JSteps.cons (fun V Ld a W hLi hpre hR hI K hK => ?_) ?_
            · have pg8 : Ld 8 = true := hpre 8 (List.mem_of_elem_eq_true (by kernel_rfl))
              refine G_g (hR.want' 8 rfl rfl rfl pg8 (hI.val 8 _ rfl pg8)) ?_
              have o9 := (hR.old 9 (by kernel_rfl)).trans (show _ = Value.pointer (some ⟨xa, 0, none⟩) from rfl)
              exact J_fieldAddr rfl _ (.tmp 9) 2 rfl (by rw [o9]; go_simp) (hK _ _ (hI.put0 9 rfl rfl))
            refine JSteps.cons (fun V Ld a W hLi hpre hR hI K hK => ?_) ?_
            · have pg8 : Ld 8 = true := hpre 8 (List.mem_of_elem_eq_true (by kernel_rfl))
              refine G_g (hR.want' 8 rfl rfl rfl pg8 (hI.val 8 _ rfl pg8)) ?_
              have p9 : Ld 9 = true := hpre 9 (List.mem_of_elem_eq_true (by kernel_rfl))
              have f9 := (hR.ev 9 rfl rfl p9).trans (hI.val 9 _ rfl p9)
              have c0 := (hI.st.cell lza).trans za2
              exact J_load rfl _ (.tmp 151) rfl (by rw [f9]; go_simp) (hK _ _ (hI.put0 10 rfl rfl))
            refine JSteps.cons (fun V Ld a W hLi hpre hR hI K hK => ?_) ?_
            · have pg8 : Ld 8 = true := hpre 8 (List.mem_of_elem_eq_true (by kernel_rfl))
              refine G_g (hR.want' 8 rfl rfl rfl pg8 (hI.val 8 _ rfl pg8)) ?_
              have o7 := (hR.old 7 (by kernel_rfl)).trans (show _ = Value.pointer (some ⟨g2, 0, none⟩) from rfl)
              exact J_fieldAddr rfl _ (.tmp 7) 2 rfl (by rw [o7]; go_simp) (hK _ _ (hI.put0 11 rfl rfl))
            refine JSteps.cons (fun V Ld a W hLi hpre hR hI K hK => ?_) ?_
            · have pg8 : Ld 8 = true := hpre 8 (List.mem_of_elem_eq_true (by kernel_rfl))
              refine G_g (hR.want' 8 rfl rfl rfl pg8 (hI.val 8 _ rfl pg8)) ?_
              have p11 : Ld 11 = true := hpre 11 (List.mem_of_elem_eq_true (by kernel_rfl))
              have f11 := (hR.ev 11 rfl rfl p11).trans (hI.val 11 _ rfl p11)
              have c0 := (hI.st.cell lz2).trans z22
              exact J_load rfl _ (.tmp 153) rfl (by rw [f11]; go_simp) (hK _ _ (hI.put0 12 rfl rfl))
            refine JSteps.cons (fun V Ld a W hLi hpre hR hI K hK => ?_) ?_
            · have pg8 : Ld 8 = true := hpre 8 (List.mem_of_elem_eq_true (by kernel_rfl))
              refine G_g (hR.want' 8 rfl rfl rfl pg8 (hI.val 8 _ rfl pg8)) ?_
              have p10 : Ld 10 = true := hpre 10 (List.mem_of_elem_eq_true (by kernel_rfl))
              have f10 := (hR.ev 10 rfl rfl p10).trans (hI.val 10 _ rfl p10)
              have p12 : Ld 12 = true := hpre 12 (List.mem_of_elem_eq_true (by kernel_rfl))
              have f12 := (hR.ev 12 rfl rfl p12).trans (hI.val 12 _ rfl p12)
              refine J_call rfl _ _ _ rfl enter_same06 (by simp only [List.map_toArray, List.map_cons, List.map_nil, f10, f12]) (same_self B5 B2 T2 b5 b2 n W (HQ2.out.below hI.st) (HZ22.out.below hI.st) (gm_small HM2.out (by have := HN.out; omega)).w HM2.out.wl (by have := HN.out; omega)) ?_
              rintro e w' ⟨rfl, hb⟩
              exact ⟨_, rfl, hK _ _ (hI.put (R := Bl) hb (below_trans hI.st hb) 13 rfl rfl)⟩
            refine JSteps.cons (fun V Ld a W hLi hpre hR hI K hK => ?_) ?_
            · have p8 : Ld 8 = true := hpre 8 (List.mem_of_elem_eq_true (by kernel_rfl))
              have f8 := (hR.ev 8 rfl rfl p8).trans (hI.val 8 _ rfl p8)
              have p13 : Ld 13 = true := hpre 13 (List.mem_of_elem_eq_true (by kernel_rfl))
              have f13 := (hR.ev 13 rfl rfl p13).trans (hI.val 13 _ rfl p13)
              exact G_pick rfl (.tmp 150) (.tmp 155) (.const (.bool false)) rfl f8 (show _ = _ from f13) (hK _ _ (hI.put0 14 rfl rfl))
            refine JSteps.cons (fun V Ld a W hLi hpre hR hI K hK => ?_) ?_
            · have p14 : Ld 14 = true := hpre 14 (List.mem_of_elem_eq_true (by kernel_rfl))
              have f14 := (hR.ev 14 rfl rfl p14).trans (hI.val 14 _ rfl p14)
              exact G_move rfl (.tmp 156) rfl f14 (hK _ _ (hI.put0 15 rfl rfl))
            refine JSteps.cons (fun V Ld a W hLi hpre hR hI K hK => ?_) ?_
            · have pg15 : Ld 15 = true := hpre 15 (List.mem_of_elem_eq_true (by kernel_rfl))
              refine G_g (hR.want' 15 rfl rfl rfl pg15 (hI.val 15 _ rfl pg15)) ?_
              have o9 := (hR.old 9 (by kernel_rfl)).trans (show _ = Value.pointer (some ⟨xa, 0, none⟩) from rfl)
              exact J_fieldAddr rfl _ (.tmp 9) 3 rfl (by rw [o9]; go_simp) (hK _ _ (hI.put0 16 rfl rfl))
            refine JSteps.cons (fun V Ld a W hLi hpre hR hI K hK => ?_) ?_
            · have pg15 : Ld 15 = true := hpre 15 (List.mem_of_elem_eq_true (by kernel_rfl))
              refine G_g (hR.want' 15 rfl rfl rfl pg15 (hI.val 15 _ rfl pg15)) ?_
              have p16 : Ld 16 = true := hpre 16 (List.mem_of_elem_eq_true (by kernel_rfl))
              have f16 := (hR.ev 16 rfl rfl p16).trans (hI.val 16 _ rfl p16)
              have c0 := (hI.st.cell lza).trans za3
              have c1 := (hI.st.cell lza).trans za4
              exact J_load rfl _ (.tmp 158) rfl (by rw [f16]; go_simp) (hK _ _ (hI.put0 17 rfl rfl))
            refine JSteps.cons (fun V Ld a W hLi hpre hR hI K hK => ?_) ?_
            · have pg15 : Ld 15 = true := hpre 15 (List.mem_of_elem_eq_true (by kernel_rfl))
              refine G_g (hR.want' 15 rfl rfl rfl pg15 (hI.val 15 _ rfl pg15)) ?_
              have p17 : Ld 17 = true := hpre 17 (List.mem_of_elem_eq_true (by kernel_rfl))
              have f17 := (hR.ev 17 rfl rfl p17).trans (hI.val 17 _ rfl p17)
              exact J_buildSlice rfl _ 1 _ rfl (by simp only [List.map_toArray, List.map_cons, List.map_nil, f17]; exact bs_share W 2 C5 1 c5) (hK _ _ (hI.put (R := Bl) (below_alloc W _) (below_trans hI.st (below_alloc W _)) 18 rfl ⟨_, rfl, hI.st.size, heap_alloc_new _ _⟩))
            refine JSteps.cons (fun V Ld a W hLi hpre hR hI K hK => ?_) ?_
            · have pg15 : Ld 15 = true := hpre 15 (List.mem_of_elem_eq_true (by kernel_rfl))
              refine G_g (hR.want' 15 rfl rfl rfl pg15 (hI.val 15 _ rfl pg15)) ?_
              have o6 := (hR.old 6 (by kernel_rfl)).trans (show _ = Value.pointer (some ⟨g1, 0, none⟩) from rfl)
              exact J_fieldAddr rfl _ (.tmp 6) 3 rfl (by rw [o6]; go_simp) (hK _ _ (hI.put0 19 rfl rfl))
            refine JSteps.cons (fun V Ld a W hLi hpre hR hI K hK => ?_) ?_
            · have pg15 : Ld 15 = true := hpre 15 (List.mem_of_elem_eq_true (by kernel_rfl))
              refine G_g (hR.want' 15 rfl rfl rfl pg15 (hI.val 15 _ rfl pg15)) ?_
              have p19 : Ld 19 = true := hpre 19 (List.mem_of_elem_eq_true (by kernel_rfl))
              have f19 := (hR.ev 19 rfl rfl p19).trans (hI.val 19 _ rfl p19)
              have c0 := (hI.st.cell lz1).trans z13
              have c1 := (hI.st.cell lz1).trans z14
              exact J_load rfl _ (.tmp 161) rfl (by rw [f19]; go_simp) (hK _ _ (hI.put0 20 rfl rfl))
            refine JSteps.cons (fun V Ld a W hLi hpre hR hI K hK => ?_) ?_
            · have pg15 : Ld 15 = true := hpre 15 (List.mem_of_elem_eq_true (by kernel_rfl))
              refine G_g (hR.want' 15 rfl rfl rfl pg15 (hI.val 15 _ rfl pg15)) ?_
              have p20 : Ld 20 = true := hpre 20 (List.mem_of_elem_eq_true (by kernel_rfl))
              have f20 := (hR.ev 20 rfl rfl p20).trans (hI.val 20 _ rfl p20)
              exact J_buildSlice rfl _ 1 _ rfl (by simp only [List.map_toArray, List.map_cons, List.map_nil, f20]; exact bs_share W 2 C1 1 c1) (hK _ _ (hI.put (R := Bl) (below_alloc W _) (below_trans hI.st (below_alloc W _)) 21 rfl ⟨_, rfl, hI.st.size, heap_alloc_new _ _⟩))
            refine JSteps.cons (fun V Ld a W hLi hpre hR hI K hK => ?_) ?_
            · have pg15 : Ld 15 = true := hpre 15 (List.mem_of_elem_eq_true (by kernel_rfl))
              refine G_g (hR.want' 15 rfl rfl rfl pg15 (hI.val 15 _ rfl pg15)) ?_
              have p18 : Ld 18 = true := hpre 18 (List.mem_of_elem_eq_true (by kernel_rfl))
              obtain ⟨ga, ea, la, ha⟩ := hI.val 18 _ rfl p18
              have f18 := (hR.ev 18 rfl rfl p18).trans ea
              have p21 : Ld 21 = true := hpre 21 (List.mem_of_elem_eq_true (by kernel_rfl))
              obtain ⟨gb, eb, lb, hb'⟩ := hI.val 21 _ rfl p21
              have f21 := (hR.ev 21 rfl rfl p21).trans eb
              refine J_call rfl _ _ _ rfl enter_same06 (by simp only [List.map_toArray, List.map_cons, List.map_nil, f18, f21]) (same_one ha hb' (HQ3.out.keep (Kept.below hI.st)) (HZ13.out.keep (Kept.below hI.st))) ?_
              rintro e w' ⟨rfl, hb⟩
              exact ⟨_, rfl, hK _ _ (hI.put (R := Bl) hb (below_trans hI.st hb) 22 rfl rfl)⟩
            refine JSteps.cons (fun V Ld a W hLi hpre hR hI K hK => ?_) ?_
            · have p15 : Ld 15 = true := hpre 15 (List.mem_of_elem_eq_true (by kernel_rfl))
              have f15 := (hR.ev 15 rfl rfl p15).trans (hI.val 15 _ rfl p15)
              have p22 : Ld 22 = true := hpre 22 (List.mem_of_elem_eq_true (by kernel_rfl))
              have f22 := (hR.ev 22 rfl rfl p22).trans (hI.val 22 _ rfl p22)
              exact G_pick rfl (.tmp 157) (.tmp 164) (.const (.bool false)) rfl f15 (show _ = _ from f22) (hK _ _ (hI.put0 23 rfl rfl))
            refine JSteps.cons (fun V Ld a W hLi hpre hR hI K hK => ?_) ?_
            · have p23 : Ld 23 = true := hpre 23 (List.mem_of_elem_eq_true (by kernel_rfl))
              have f23 := (hR.ev 23 rfl rfl p23).trans (hI.val 23 _ rfl p23)
              exact G_move rfl (.tmp 165) rfl f23 (hK _ _ (hI.put0 24 rfl rfl))
            refine JSteps.cons (fun V Ld a W hLi hpre hR hI K hK => ?_) ?_
            · have pg24 : Ld 24 = true := hpre 24 (List.mem_of_elem_eq_true (by kernel_rfl))
              refine G_g (hR.want' 24 rfl rfl rfl pg24 (hI.val 24 _ rfl pg24)) ?_
              have o12 := (hR.old 12 (by kernel_rfl)).trans (show _ = Value.pointer (some ⟨xb, 0, none⟩) from rfl)
              exact J_fieldAddr rfl _ (.tmp 12) 3 rfl (by rw [o12]; go_simp) (hK _ _ (hI.put0 25 rfl rfl))
            refine JSteps.cons (fun V Ld a W hLi hpre hR hI K hK => ?_) ?_
            · have pg24 : Ld 24 = true := hpre 24 (List.mem_of_elem_eq_true (by kernel_rfl))
              refine G_g (hR.want' 24 rfl rfl rfl pg24 (hI.val 24 _ rfl pg24)) ?_
              have p25 : Ld 25 = true := hpre 25 (List.mem_of_elem_eq_true (by kernel_rfl))
              have f25 := (hR.ev 25 rfl rfl p25).trans (hI.val 25 _ rfl p25)
              exact J_fieldAddr rfl _ (.tmp 167) 1 rfl (by rw [f25]; go_simp) (hK _ _ (hI.put0 26 rfl rfl))
            refine JSteps.cons (fun V Ld a W hLi hpre hR hI K hK => ?_) ?_
            · have pg24 : Ld 24 = true := hpre 24 (List.mem_of_elem_eq_true (by kernel_rfl))
              refine G_g (hR.want' 24 rfl rfl rfl pg24 (hI.val 24 _ rfl pg24)) ?_
              have p26 : Ld 26 = true := hpre 26 (List.mem_of_elem_eq_true (by kernel_rfl))
              have f26 := (hR.ev 26 rfl rfl p26).trans (hI.val 26 _ rfl p26)
              have c0 := (hI.st.cell lzb).trans zb4
              exact J_load rfl _ (.tmp 168) rfl (by rw [f26]; go_simp) (hK _ _ (hI.put0 27 rfl rfl))
            refine JSteps.cons (fun V Ld a W hLi hpre hR hI K hK => ?_) ?_
            · have pg24 : Ld 24 = true := hpre 24 (List.mem_of_elem_eq_true (by kernel_rfl))
              refine G_g (hR.want' 24 rfl rfl rfl pg24 (hI.val 24 _ rfl pg24)) ?_
              have p27 : Ld 27 = true := hpre 27 (List.mem_of_elem_eq_true (by kernel_rfl))
              have f27 := (hR.ev 27 rfl rfl p27).trans (hI.val 27 _ rfl p27)
              exact J_indexAddr rfl _ (.tmp 169) (.const (.int .i64 0)) rfl (by rw [f27]; go_simp) (hK _ _ (hI.put0 28 rfl rfl))
            refine JSteps.cons (fun V Ld a W hLi hpre hR hI K hK => ?_) ?_
            · have pg24 : Ld 24 = true := hpre 24 (List.mem_of_elem_eq_true (by kernel_rfl))
              refine G_g (hR.want' 24 rfl rfl rfl pg24 (hI.val 24 _ rfl pg24)) ?_
              have p28 : Ld 28 = true := hpre 28 (List.mem_of_elem_eq_true (by kernel_rfl))
              have f28 := (hR.ev 28 rfl rfl p28).trans (hI.val 28 _ rfl p28)
              have c0 := (hI.st.cell lvb).trans zvb
              exact J_load rfl _ (.tmp 170) rfl (by rw [f28]; go_simp) (hK _ _ (hI.put0 29 rfl rfl))
            refine JSteps.cons (fun V Ld a W hLi hpre hR hI K hK => ?_) ?_
            · have pg24 : Ld 24 = true := hpre 24 (List.mem_of_elem_eq_true (by kernel_rfl))
              refine G_g (hR.want' 24 rfl rfl rfl pg24 (hI.val 24 _ rfl pg24)) ?_
              have o8 := (hR.old 8 (by kernel_rfl)).trans (show _ = Value.pointer (some ⟨g3, 0, none⟩) from rfl)
              exact J_fieldAddr rfl _ (.tmp 8) 3 rfl (by rw [o8]; go_simp) (hK _ _ (hI.put0 30 rfl rfl))
            refine JSteps.cons (fun V Ld a W hLi hpre hR hI K hK => ?_) ?_
            · have pg24 : Ld 24 = true := hpre 24 (List.mem_of_elem_eq_true (by kernel_rfl))
              refine G_g (hR.want' 24 rfl rfl rfl pg24 (hI.val 24 _ rfl pg24)) ?_
              have p30 : Ld 30 = true := hpre 30 (List.mem_of_elem_eq_true (by kernel_rfl))
              have f30 := (hR.ev 30 rfl rfl p30).trans (hI.val 30 _ rfl p30)
              exact J_fieldAddr rfl _ (.tmp 172) 1 rfl (by rw [f30]; go_simp) (hK _ _ (hI.put0 31 rfl rfl))
            refine JSteps.cons (fun V Ld a W hLi hpre hR hI K hK => ?_) ?_
            · have pg24 : Ld 24 = true := hpre 24 (List.mem_of_elem_eq_true (by kernel_rfl))
              refine G_g (hR.want' 24 rfl rfl rfl pg24 (hI.val 24 _ rfl pg24)) ?_
              have p31 : Ld 31 = true := hpre 31 (List.mem_of_elem_eq_true (by kernel_rfl))
              have f31 := (hR.ev 31 rfl rfl p31).trans (hI.val 31 _ rfl p31)
              have c0 := (hI.st.cell lz3).trans z34
              exact J_load rfl _ (.tmp 173) rfl (by rw [f31]; go_simp) (hK _ _ (hI.put0 32 rfl rfl))
            refine JSteps.cons (fun V Ld a W hLi hpre hR hI K hK => ?_) ?_
            · have pg24 : Ld 24 = true := hpre 24 (List.mem_of_elem_eq_true (by kernel_rfl))
              refine G_g (hR.want' 24 rfl rfl rfl pg24 (hI.val 24 _ rfl pg24)) ?_
              have p32 : Ld 32 = true := hpre 32 (List.mem_of_elem_eq_true (by kernel_rfl))
              have f32 := (hR.ev 32 rfl rfl p32).trans (hI.val 32 _ rfl p32)
              exact J_indexAddr rfl _ (.tmp 174) (.const (.int .i64 0)) rfl (by rw [f32]; go_simp) (hK _ _ (hI.put0 33 rfl rfl))
            refine JSteps.cons (fun V Ld a W hLi hpre hR hI K hK => ?_) ?_
            · have pg24 : Ld 24 = true := hpre 24 (List.mem_of_elem_eq_true (by kernel_rfl))
              refine G_g (hR.want' 24 rfl rfl rfl pg24 (hI.val 24 _ rfl pg24)) ?_
              have p33 : Ld 33 = true := hpre 33 (List.mem_of_elem_eq_true (by kernel_rfl))
              have f33 := (hR.ev 33 rfl rfl p33).trans (hI.val 33 _ rfl p33)
              have c0 := (hI.st.cell lwb).trans zwb
              exact J_load rfl _ (.tmp 175) rfl (by rw [f33]; go_simp) (hK _ _ (hI.put0 34 rfl rfl))
            refine JSteps.cons (fun V Ld a W hLi hpre hR hI K hK => ?_) ?_
            · have pg24 : Ld 24 = true := hpre 24 (List.mem_of_elem_eq_true (by kernel_rfl))
              refine G_g (hR.want' 24 rfl rfl rfl pg24 (hI.val 24 _ rfl pg24)) ?_
              have p29 : Ld 29 = true := hpre 29 (List.mem_of_elem_eq_true (by kernel_rfl))
              have f29 := (hR.ev 29 rfl rfl p29).trans (hI.val 29 _ rfl p29)
              have p34 : Ld 34 = true := hpre 34 (List.mem_of_elem_eq_true (by kernel_rfl))
              have f34 := (hR.ev 34 rfl rfl p34).trans (hI.val 34 _ rfl p34)
              exact J_binOp rfl .eql _ (.tmp 171) (.tmp 176) _ rfl (by rw [f29, f34]; go_simp) (hK _ _ (hI.put0 35 rfl rfl))
            refine JSteps.cons (fun V Ld a W hLi hpre hR hI K hK => ?_) ?_
            · have p24 : Ld 24 = true := hpre 24 (List.mem_of_elem_eq_true (by kernel_rfl))
              have f24 := (hR.ev 24 rfl rfl p24).trans (hI.val 24 _ rfl p24)
              have p35 : Ld 35 = true := hpre 35 (List.mem_of_elem_eq_true (by kernel_rfl))
              have f35 := (hR.ev 35 rfl rfl p35).trans (hI.val 35 _ rfl p35)
              exact G_pick rfl (.tmp 166) (.tmp 177) (.const (.bool false)) rfl f24 (show _ = _ from f35) (hK _ _ (hI.put0 36 rfl rfl))
            refine JSteps.cons (fun V Ld a W hLi hpre hR hI K hK => ?_) trivial
            · have p36 : Ld 36 = true := hpre 36 (List.mem_of_elem_eq_true (by kernel_rfl))
              have f36 := (hR.ev 36 rfl rfl p36).trans (hI.val 36 _ rfl p36)
              exact G_assign rfl (.tmp 178) rfl f36 (hK _ _ (hI.put0 37 rfl rfl))
          case refine_3 =>
            intro V Ld w9 hLd hI
            have e1 := hI.val 37 _ rfl (hLd 37 (by decide))
            have hb9 := below_trans HB4.out hI.st
            replace e1 : V 37 = .bool true := e1
            clear hI hLd
            simp only [finL, putL, Act.put, Nat.reduceAdd]
            rw [e1]
            simp only [List.setIfInBounds_toArray, List.set_cons_succ, List.set_cons_zero]
            go_wp2_with fail
            go_ret
            exact RetB.bool rfl hb9
  · have hL := light_any A0 L0.length c0 w
    rw [decide_eq_false hlight] at hL
    have HLt := Lib.hid hL
    clear hL
    go_enter Tryd.func6, Tryd.ntmps6
    go_wp2_with fail
    refine ret_pure HLt.out ?_
    go_wp2_with fail
    refine ret_below (awake42 _ HB.out) ?_
    intro w1 hb1
    go_wp2_with fail
    go_ret
    exact RetB.bool rfl hb1
end Go.Proofs.YtjckpammcgeloaaDoor
namespace Go.Proofs.YtjckpammcgeloaaDoor
open Go.RowKit

theorem cell_block_lt {w : World} {a : Addr} {v : Value} (h : w.cell? a = some v) : a.block < w.heap.size := by
  rcases Nat.lt_or_ge a.block w.heap.size with hlt | hge
  · exact hlt
  · unfold World.cell? at h; simp [Array.getElem?_eq_none hge] at h
theorem open_row {W : World} {x : Addr} {len cap : Nat} {zs : List Int} (hl : len ≤ cap) (hm : cap ≤ maxLen) (hz : zs.length = cap) (hcell : ∀ i, i < zs.length → W.cell? (x.add i) = some (.int .i64 (zs.getD i 0)))
    (hb : ∀ n ∈ zs, -9223372036854775808 ≤ n ∧ n ≤ 9223372036854775807) :
    ∃ ys : List Int, ys.length = len ∧ ys.length ≤ maxLen ∧ IntsAt W (some x) ys ∧ ∀ n ∈ ys, -9223372036854775808 ≤ n ∧ n ≤ 9223372036854775807 := by
  refine ⟨zs.take len, by simp; omega, by simp; omega, fun k hk => ?_, fun n hn => hb n (List.mem_of_mem_take hn)⟩
  have hk' : k < len := by simpa using Nat.lt_of_lt_of_le hk (List.length_take_le _ _)
  have h0 := hcell 0 (by omega)
  have hk0 := hcell k (by omega)
  obtain ⟨b, off, spot⟩ := x
  have hs : spot = none := by simpa [Addr.add] using World.cell?_spot h0
  subst hs
  have hlt := cell_block_lt hk0
  refine ⟨b, off, rfl, ?_, ?_⟩
  · unfold Addr.add at hlt; split at hlt <;> exact hlt
  · have e : (⟨b, off, none⟩ : Addr).add k = ⟨b, off + k, none⟩ := by
      unfold Addr.add; split
      · rename_i h; subst h; rfl
      · rfl
    rw [← e, hk0, nth_eq hk]
    simp [List.getD_eq_getElem?_getD, show k < zs.length by omega]
end Go.Proofs.YtjckpammcgeloaaDoor
