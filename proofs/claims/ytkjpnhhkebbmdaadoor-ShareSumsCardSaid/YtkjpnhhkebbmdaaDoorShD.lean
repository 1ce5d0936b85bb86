/-
  Shares: which lists are good, by the document.
-/
import Derived.Test.YtkjpnhhkebbmdaaDoorShC
namespace Go.Proofs.YtkjpnhhkebbmdaaDoor
open Go.RowKit

attribute [local go_sem high] sliced_low
set_option maxRecDepth 100000 in
set_option maxHeartbeats 4000000 in
theorem refGood_any {P : Nat → Prop} (p n h : Int) (A : Option Addr) (c : Nat) (S : List Shr) (w : World) (hv : primeV p = true) (hS : ShP P w A c S) (hsh : Short S) (hl : S.length ≤ 1048576) :
    Calls Tryd.prog 56 #[planV p n h, .slice A S.length c] w (RetB (.bool (gdB p h S)) w) := by
  have HV0 := Lib.hid hv
  have HS := Lib.hid hS
  have HSH := Lib.hid hsh
  have hcl := hS.ok.len
  clear hS hsh hv
  go_enter Tryd.func56, Tryd.ntmps56
  go_wp2_with fail
  go_loopw [11] (fun i wr => ∃ k : Nat, k ≤ S.length ∧ i = .int .i64 k ∧ (∀ j, j < k → GdAt p h S j) ∧ PlanCell wr w.heap.size p n h ∧ Below w.heap.size w wr) (fun i _ => S.length - (intOf i).toNat)
  case atStart => exact ⟨0, Nat.zero_le _, rfl, fun j hj => absurd hj (by omega), PlanCell.new p n h rfl, below_alloc _ _⟩
  case round =>
    obtain ⟨k, hk, rfl, hgd, hpl, hbr⟩ := hrel
    have HG := Lib.hid hgd
    clear hgd
    by_cases hlt : k < S.length
    · obtain ⟨b, off, B, c1, hA, hb, hPb, h1, h2, h3⟩ := (HS.out.below hbr).at_ k hlt
      obtain ⟨b0, off0, B0, c0, hA0, hb0, -, -, z1, -⟩ := (HS.out.below hbr).at_ 0 (by omega)
      rw [hA] at hA0
      injection hA0 with e0
      injection e0 with e1 e2
      subst e1; subst e2; subst hA
      rw [Nat.zero_mul, Nat.add_zero] at z1
      have hI := Lib.hid h3.ints
      have hvl := HSH.out k hlt
      have hvl0 := HSH.out 0 (by omega)
      have HGD : Hid (∀ (l0 : Nat), l0 = (vS S 0).length → (stB p h (hS S k) (vS S k) = false ∨ (∃ j, j < k ∧ hS S j = hS S k) ∨ (vS S k).length ≠ l0 ∨ 2048 < (vS S k).length) → false = gdB p h S) := fun l0 hl0 hc => by
        subst hl0
        refine gdB_no k hlt ?_
        rcases hc with hc | ⟨j, hj, hc⟩ | hc | hc
        · exact not_gd_st hc
        · exact fun g => g.new j hj hc
        · exact fun g => hc g.len
        · exact fun g => by have := g.few; omega
      have HOK : Hid (stB p h (hS S k) (vS S k) = true → (∀ j, j < k → hS S j ≠ hS S k) → (vS S k).length = (vS S 0).length → (vS S k).length ≤ 2048 → GdAt p h S k) :=
        fun h1 h2 h3 h4 => ⟨h1, h3, h4, h2⟩
      generalize hx : hS S k = x at *
      generalize vS S k = L at *
      obtain ⟨l0, hl0⟩ : ∃ l0, l0 = (vS S 0).length := ⟨_, rfl⟩
      rw [← hl0] at z1 hvl0 HOK
      have HL0 := Lib.hid hl0
      have HX := Lib.hid hx
      clear h3 hl0 hx
      go_wp2_with fail
      refine gen_world fun w1 hw1 => ?_
      have hb1 : Below wr.heap.size wr w1 := by rw [hw1]; exact below_alloc _ _
      have hsc : ShCell w1 wr.heap.size x (.slice B L.length c1) := by rw [hw1]; exact ShCell.new _ _ rfl
      have hp1 := hpl.below hb1
      have s0 := hsc.c0
      have s1 := hsc.c1
      have p0 := hp1.c0
      have p1 := hp1.c1
      have p2 := hp1.c2
      have lp := hp1.lt
      have ls := blk_lt hsc
      have z2 := (hb1.cell (p := ⟨b, off + 1, none⟩) hb).trans z1
      have lb := Nat.lt_of_lt_of_le hb hb1.size
      have HST := Lib.hid (fun (W : World) (hb : Below w1.heap.size w1 W) => refStands_any p n h x B L c1 W HV0.out ((hI.out.below hb1).below hb) (by omega))
      have hbw := below_trans hbr hb1
      clear hw1 h1 h2 z1 hI
      generalize stB p h x L = st at *
      cases st with
      | false =>
        have HV := Lib.hid (HGD.out l0 HL0.out (.inl rfl))
        clear hp1 hsc
        refine wp_region_grew (by kernel_rfl) (by kernel_rfl) ?_
        repeat (go_big_quiet_step ((go_at_call 61; exact grew_of (HST.out _ (grewW.below _ _)))))
        refine wpQuiet_nil ?_
        intro w2 hb2
        go_wp2_with fail
        go_ret
        exact RetB.bool HV.out (below_trans hbw hb2)
      | true =>
        by_cases hle : L.length = l0
        · have t1 : ((L.length : Int) != (l0 : Int)) = false := by simp; omega
          by_cases hfw : 2048 < L.length
          · have HV := Lib.hid (HGD.out l0 HL0.out (.inr (.inr (.inr hfw))))
            have t2 : decide (2048 < (L.length : Int)) = true := decide_eq_true (by omega)
            clear hp1 hle hsc
            refine wp_region_grew (by kernel_rfl) (by kernel_rfl) ?_
            repeat (go_big_quiet_step ((go_at_call 61; exact grew_of (HST.out _ (grewW.below _ _)))))
            refine wpQuiet_nil ?_
            intro w2 hb2
            go_wp2_with fail
            go_ret
            exact RetB.bool HV.out (below_trans hbw hb2)
          · have HK := Lib.hid (fun H => HOK.out rfl H hle (by omega))
            have t2 : decide (2048 < (L.length : Int)) = false := decide_eq_false (by omega)
            have HP1 := Lib.hid hp1
            have HSC := Lib.hid hsc
            have i1 : (0 : Int) ≤ (k : Int) := by omega
            have i2 : (k : Int) ≤ (c : Int) := by omega
            clear hp1 hle hsc
            refine wp_region_grew (by kernel_rfl) (by kernel_rfl) ?_
            repeat (go_big_quiet_step ((go_at_call 61; exact grew_of (HST.out _ (grewW.below _ _)))))
            refine wpQuiet_nil ?_
            intro w2 hb2
            go_wp2_with fail
            have hbw2 := below_trans hbw hb2
            have hsz := hbw2.size
            have HSC2 := Lib.hid (HSC.out.below hb2)
            have HP2 := Lib.hid (HP1.out.below hb2)
            clear s0 s1 p0 p1 p2 z2
            go_loopw [41] (fun i wi => ∃ j : Nat, j ≤ k ∧ i = .int .i64 j ∧ (∀ i, i < j → hS S i ≠ x) ∧ Below w2.heap.size w2 wi) (fun i _ => k - (intOf i).toNat)
            case atStart => exact ⟨0, Nat.zero_le _, rfl, fun i hi => absurd hi (by omega), Below.refl _ _⟩
            case round =>
              obtain ⟨j, hj, rfl, hne, hbi⟩ := hrel
              have HNE := Lib.hid hne
              have hbwi := below_trans hbw2 hbi
              clear hne
              by_cases hjk : j < k
              · obtain ⟨b', off', B', c', hA, hb', -, g1, g2, -⟩ := (HS.out.below hbwi).at_ j (by omega)
                injection hA with e0
                injection e0 with e1 e2
                subst e1; subst e2
                have s0 := (HSC2.out.below hbi).c0
                have ls2 := blk_lt (HSC2.out.below hbi)
                have hxj : Hid (hS S j = x → false = gdB p h S) := fun h2 => HGD.out l0 HL0.out (.inr (.inl ⟨j, hjk, h2⟩))
                generalize hy : hS S j = y at *
                have HY := Lib.hid hy
                clear hy
                by_cases hyx : y = x
                · have HV := Lib.hid (hxj.out hyx)
                  have t3 : (y == x) = true := by rw [hyx]; simp
                  clear hyx
                  go_wp2_with fail
                  go_ret
                  exact RetB.bool HV.out (hbwi.alloc hbwi.size _)
                · have t3 : (y == x) = false := by simp [hyx]
                  have HYX := Lib.hid hyx
                  clear hyx
                  go_wp2_with fail
                  go_roundw
                  case rel =>
                    refine ⟨j + 1, by omega, by go_num, fun i hi => ?_, below_trans hbi (below_alloc _ _)⟩
                    by_cases hij : i = j
                    · subst hij; rw [HY.out]; exact HYX.out
                    · exact HNE.out i (by omega)
                  case measure => simp [intOf]; omega
              · have HGK := Lib.hid (HK.out (fun i hi => HNE.out i (by omega)))
                go_wp2_with fail
                go_roundw
                case rel =>
                  refine ⟨k + 1, by omega, by go_num, fun i hi => ?_, HP2.out.below hbi, hbwi⟩
                  by_cases hik : i = k
                  · subst hik; exact HGK.out
                  · exact HG.out i (by omega)
                case measure => simp [intOf]; omega
        · have HV := Lib.hid (HGD.out l0 HL0.out (.inr (.inr (.inl hle))))
          have t1 : ((L.length : Int) != (l0 : Int)) = true := by simp; omega
          clear hp1 hsc
          refine wp_region_grew (by kernel_rfl) (by kernel_rfl) ?_
          repeat (go_big_quiet_step ((go_at_call 61; exact grew_of (HST.out _ (grewW.below _ _)))))
          refine wpQuiet_nil ?_
          intro w2 hb2
          go_wp2_with fail
          go_ret
          exact RetB.bool HV.out (below_trans hbw hb2)
    · have HV := Lib.hid (gdB_yes (fun j hj => HG.out j (by omega)))
      go_wp2_with fail
      go_ret
      exact RetB.bool HV.out hbr
end Go.Proofs.YtkjpnhhkebbmdaaDoor
