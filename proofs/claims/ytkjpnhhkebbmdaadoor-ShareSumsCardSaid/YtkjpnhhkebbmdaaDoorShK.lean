/-
  Shares: whether they fit, by the document.
-/
import Derived.Test.YtkjpnhhkebbmdaaDoorShJ
namespace Go.Proofs.YtkjpnhhkebbmdaaDoor
open Go.RowKit

attribute [local go_sem high] sliced_low

set_option maxRecDepth 100000 in
set_option maxHeartbeats 4000000 in
theorem refFits_any {P : Nat → Prop} (p n h : Int) (A : Option Addr) (c : Nat) (S : List Shr) (w : World) (hv : primeV p = validI p) (hS : ShP P w A c S) (hsh : Short S) (hl : S.length ≤ 1048576) :
    Calls Tryd.prog 34 #[planV p n h, .slice A S.length c] w (RetB (.bool (ftB p n h S)) w) := by
  have hva : Calls Tryd.prog 19 #[planV p n h] (w.alloc (.cells #[.int .i64 p, .int .i64 n, .int .i64 h] 24)) (RetB (.bool (plB p n h)) (w.alloc (.cells #[.int .i64 p, .int .i64 n, .int .i64 h] 24))) := refValid_plan p n h _ hv
  have HS := Lib.hid hS
  have HSH := Lib.hid hsh
  clear hS hsh
  cases hp : plB p n h with
  | false =>
    have HE := Lib.hid (ftB_pl (S := S) hp)
    rw [hp] at hva
    have HV := Lib.hid hva
    clear hva hp hv
    go_enter Tryd.func34, Tryd.ntmps34
    go_wp2_with fail
    refine ret_below HV.out ?_
    intro w1 hb1
    go_wp2_with fail
    go_ret
    exact RetB.bool HE.out (below_trans (below_alloc _ _) hb1)
  | true =>
    rw [hp] at hva
    have HV := Lib.hid hva
    have hpl := of_decide_eq_true hp
    have hpv : primeV p = true := hv.trans hpl.2.2.2.2
    have hgo : ∀ (W : World), Below w.heap.size w W → Calls Tryd.prog 56 #[planV p n h, .slice A S.length c] W (RetB (.bool (gdB p h S)) W) := fun W hb => refGood_any p n h A c S W hpv (HS.out.below hb) HSH.out hl
    cases hq : gdB p h S with
    | false =>
      have HE := Lib.hid (ftB_gd (n := n) hq)
      rw [hq] at hgo
      have HG := Lib.hid hgo
      clear hgo hq hp hv hpv hva hpl
      go_enter Tryd.func34, Tryd.ntmps34
      go_wp2_with fail
      refine ret_below HV.out ?_
      intro w1 hb1
      have hbw := below_trans (below_alloc _ _) hb1
      have hpc := (PlanCell.new (w := w) p n h rfl).below hb1
      have p0 := hpc.c0
      have p1 := hpc.c1
      have p2 := hpc.c2
      go_wp2_with fail
      refine ret_below (HG.out _ hbw) ?_
      intro w2 hb2
      go_wp2_with fail
      go_ret
      exact RetB.bool HE.out (below_trans hbw hb2)
    | true =>
      rw [hq] at hgo
      have HG := Lib.hid hgo
      by_cases hfew : (S.length : Int) ≤ n
      · have HE := Lib.hid (ftB_few hp hq hfew)
        clear hgo hq hp hv hpv hva hpl
        go_enter Tryd.func34, Tryd.ntmps34
        go_wp2_with fail
        refine ret_below HV.out ?_
        intro w1 hb1
        have hbw := below_trans (below_alloc _ _) hb1
        have hpc := (PlanCell.new (w := w) p n h rfl).below hb1
        have p0 := hpc.c0
        have p1 := hpc.c1
        have p2 := hpc.c2
        have HP := Lib.hid hpc
        go_wp2_with fail
        refine ret_below (HG.out _ hbw) ?_
        intro w2 hb2
        have q1 := (HP.out.below hb2).c1
        go_wp2_with fail
        go_ret
        exact RetB.bool HE.out (below_trans hbw hb2)
      · have hne := ftB_more hp hq hfew
        obtain ⟨q, rfl, hqp, hq2⟩ := plan_prime hpl hv
        obtain ⟨l1, l2, l3, l4, -⟩ := hpl
        obtain ⟨n, rfl⟩ := Int.eq_ofNat_of_zero_le (show 0 ≤ n by omega)
        obtain ⟨h, rfl⟩ := Int.eq_ofNat_of_zero_le (show 0 ≤ h by omega)
        obtain ⟨hSN, hg⟩ := gd_nat (gdB_of hq)
        generalize natL S = N at *
        subst hSN
        rw [Int.toNat_natCast, Int.toNat_natCast] at hne
        rw [shL_len] at hfew hl HG ⊢
        have h2 := hqp.1
        have hgT := hg.take n (by omega)
        have htl : (N.take n).length = n := by rw [List.length_take]; omega
        have hvl0 := hg.few 0 (by omega)
        have htv : ∀ k, k < (N.take n).length → (vN (N.take n) k).length = (vN N 0).length := fun k hk => by
          rw [vN_take (by omega)]; exact hg.len k (by omega)
        have HHL := Lib.hid (hgT.hlt (show h < q by omega))
        have HCL := Lib.hid (fun i => hgT.clt (show 1 ≤ q by omega) i)
        have HTV := Lib.hid htv
        have HND := Lib.hid hgT.nd
        have HTL := Lib.hid htl
        have HQP := Lib.hid hqp
        have HGN := Lib.hid hg
        have HF1 := Lib.hid (fun k hk1 hk2 i hi hc => ftB_no hne k hk1 hk2 i hi hc)
        have HF2 := Lib.hid (fun hc => ftB_yes hne hc)

        have i1 : (0 : Int) ≤ (n : Int) := by omega
        have i2 : (n : Int) ≤ (c : Int) := by have := HS.out.cap; omega
        have i4 : (n : Int) ≤ (N.length : Int) := by omega
        have t3 : decide (N.length ≤ n) = false := decide_eq_false (by omega)
        clear hgo hq hp hv hpv hva hg hgT htv htl hqp hne
        go_enter Tryd.func34, Tryd.ntmps34
        go_wp2_with fail
        refine ret_below HV.out ?_
        intro w1 hb1
        have hbw := below_trans (below_alloc _ _) hb1
        have hpc := (PlanCell.new (w := w) q n h rfl).below hb1
        have p0 := hpc.c0
        have p1 := hpc.c1
        have p2 := hpc.c2
        have HP := Lib.hid hpc
        clear hpc
        go_wp2_with fail
        refine ret_below (HG.out _ hbw) ?_
        intro w2 hb2
        have hbw2 := below_trans hbw hb2
        have HP2 := Lib.hid (HP.out.below hb2)
        have q1 := HP2.out.c1
        clear p0 p1 p2 hb1 hbw hb2 HP
        have hn0 : 0 < N.length := by omega
        obtain ⟨b, off, B, c0, rfl, hb0, -, z0, z1, -, -⟩ := (HS.out.below hbw2).nat hn0
        rw [Nat.zero_mul, Nat.add_zero] at z1
        clear z0
        have hcn : ¬ c = n := by have := HS.out.cap; omega
        have HSD := Lib.hid (HS.out.drop (n := n) (by omega))
        have hpo : ∀ (W : World) (i : Nat), Below w.heap.size w W → i < (vN N 0).length → Calls Tryd.prog 57 #[.slice (some ⟨b, off, none⟩) n c, .int .i64 i] W (NewTwo (hsN (N.take n)) (colN (N.take n) i) W) := fun W i hb hi => by
          have := points_any (some ⟨b, off, none⟩) c (N.take n) i W (by rw [← shL_take]; exact (HS.out.below hb).take n) (by rw [HTL.out]; omega) (fun k hk => by rw [HTV.out k hk]; exact hi) (by omega)
          rw [HTL.out] at this; exact this
        have HPO := Lib.hid hpo
        have HIT := Lib.hid (fun (i x : Nat) (hx : x < q) (W : World) (X Y : Option Addr) (cx cy : Nat) h => itp_any q n (N.take n) i x X Y cx cy W HQP.out (by omega) (by omega) HTL.out (by omega) HND.out HHL.out (HCL.out i) hx h)
        have lp := HP2.out.lt
        obtain ⟨l0, hl0⟩ : ∃ l0, l0 = (vN N 0).length := ⟨_, rfl⟩
        have HL0 := Lib.hid hl0
        rw [← hl0] at z1 hvl0 HPO HF1
        clear hpo hl0
        go_wp2_with fail
        go_loopw [31] (fun i wr => ∃ j : Nat, j ≤ l0 ∧ i = .int .i64 j ∧ (∀ i, i < j → ∀ k, n ≤ k → k < N.length → fitAt q n N k i) ∧ Below w2.heap.size w2 wr) (fun i _ => l0 - (intOf i).toNat)
        case atStart => exact ⟨0, Nat.zero_le _, rfl, fun j hj => absurd hj (by omega), Below.refl _ _⟩
        case round =>
          obtain ⟨j, hj, rfl, hfit, hbr⟩ := hrel
          have HFK := Lib.hid hfit
          have hbwr := below_trans hbw2 hbr
          clear hfit
          by_cases hlt : j < l0
          · have HPOj := Lib.hid (fun W hb => HPO.out W j hb hlt)
            have HITj := Lib.hid (HIT.out j)
            have HPR := Lib.hid (HP2.out.below hbr)
            have r1 := HPR.out.c1
            have HF1j := Lib.hid (fun (k : Nat) (h1 : n ≤ k) (h2 : k < N.length) => HF1.out k h1 h2 j hlt)
            have HFD : Hid (∀ k, fitAt q n N k j ↔ wgN q (wsN q (hsN (N.take n)) (hN N k)) (colN (N.take n) j) n = nthN (vN N k) j) := fun k => Iff.rfl
            generalize colN (N.take n) j = CC at *
            generalize hsN (N.take n) = HH at *
            clear q1
            go_wp2_with fail
            refine (HPOj.out _ hbwr).mono ?_
            rintro e w4 ⟨XA, xc, YA, yc, rfl, hT⟩
            have hb4 := hT.below
            have HL := Lib.hid hT.lists
            have hbw4 := below_trans hbwr hb4
            have HP4 := Lib.hid (HPR.out.below hb4)
            have r4 := HP4.out.c1
            have hbr4 := below_trans hbr hb4
            clear hT r1
            go_wp2_with fail
            go_loopw [48] (fun i wi => ∃ k : Nat, k ≤ N.length - n ∧ i = .int .i64 k ∧ (∀ i, i < k → fitAt q n N (n + i) j) ∧ Below w4.heap.size w4 wi) (fun i _ => N.length - n - (intOf i).toNat)
            case atStart => exact ⟨0, Nat.zero_le _, rfl, fun j hj => absurd hj (by omega), Below.refl _ _⟩
            case round =>
              obtain ⟨k, hk, rfl, hfj, hbi⟩ := hrel
              have HFJ := Lib.hid hfj
              have hbwi := below_trans hbw4 hbi
              clear hfj r4
              by_cases hkl : k < N.length - n
              · obtain ⟨b', off', B', c', hA, hb', -, g1, g2, hNt, -⟩ := (HSD.out.below hbwi).nat (show k < (N.drop n).length by rw [List.length_drop]; omega)
                injection hA with e0
                injection e0 with e1 e2
                subst e1; subst e2
                rw [hN_drop] at g1
                rw [vN_drop] at g2 hNt
                have hkln := HGN.out.len (n + k) (by omega)
                have hkr := (HGN.out.rng (n + k) (by omega)).2.1
                obtain ⟨b2, o2, rfl, hb2, hc2⟩ := hNt j (by have := HL0.out; omega)
                have HF1k := Lib.hid (HF1j.out (n + k) (by omega) (by omega))
                have HFDk := Lib.hid (HFD.out (n + k))
                have hxq : hN N (n + k) < q := by omega
                have hjL : j < (vN N (n + k)).length := by have := HL0.out; omega
                have hvl : (vN N (n + k)).length ≤ 2048 := by have := HL0.out; omega
                have i5 : (0 : Int) ≤ (j : Int) := by omega
                have i6 : (j : Int) < ((vN N (n + k)).length : Int) := by omega
                have HITx := Lib.hid (fun W X Y cx cy h => HITj.out (hN N (n + k)) hxq W X Y cx cy h)
                generalize hN N (n + k) = x at *
                generalize nthN (vN N (n + k)) j = v at *
                generalize wgN q (wsN q HH x) CC n = y at *
                have p5 := (HP4.out.below hbi).c0
                have lp5 := (HP4.out.below hbi).lt
                clear hNt hkln
                go_wp2_with fail
                generalize hw5 : wr.alloc (.cells #[.int .i64 (x : Int), .slice (some ⟨b2, o2, none⟩) (vN N (n + k)).length c'] 47) = w5
                have hb5 : Below wr.heap.size wr w5 := by rw [← hw5]; exact below_alloc _ _
                have hsc : ShCell w5 wr.heap.size x (.slice (some ⟨b2, o2, none⟩) (vN N (n + k)).length c') := by rw [← hw5]; exact ShCell.new _ _ rfl
                have s0 := hsc.c0
                have HSC := Lib.hid hsc
                have p6 := (hb5.cell (p := ⟨w.heap.size, 0, none⟩) lp5).trans p5
                have hc5 := (hb5.cell (p := ⟨b2, o2 + j, none⟩) hb2).trans hc2
                have lb5 := Nat.lt_of_lt_of_le hb2 hb5.size
                have HL5 := Lib.hid (show NatsAt w5 XA HH ∧ SlOK XA xc HH ∧ NatsAt w5 YA CC ∧ SlOK YA yc CC from ⟨(HL.out.1.below hbi).below hb5, HL.out.2.1, (HL.out.2.2.1.below hbi).below hb5, HL.out.2.2.2⟩)
                clear hw5 hsc g1 g2 hc2 p5
                refine ret_below (HITx.out _ XA YA xc yc HL5.out) ?_
                intro w6 hb6
                have s6 := (HSC.out.below hb6).c1
                have hc6 := (hb6.cell (p := ⟨b2, o2 + j, none⟩) lb5).trans hc5
                have hbi6 := below_trans hbi (below_trans hb5 hb6)
                clear s0 p6 hc5
                by_cases hyv : y = v
                · have t5 : ((y : Int) != (v : Int)) = false := by simp; omega
                  have t6 : (y != v) = false := by simp [hyv]
                  have HOK := Lib.hid (HFDk.out.2 hyv)
                  clear hyv
                  go_wp2_with fail
                  go_roundw
                  case rel =>
                    refine ⟨k + 1, by omega, by go_num, fun i hi => ?_, hbi6⟩
                    by_cases hik : i = k
                    · subst hik; exact HOK.out
                    · exact HFJ.out i (by omega)
                  case measure => simp [intOf]; omega
                · have t5 : ((y : Int) != (v : Int)) = true := by simp; omega
                  have t6 : (y != v) = true := by simp [hyv]
                  have HOK := Lib.hid (HF1k.out (fun h => hyv (HFDk.out.1 h)))
                  clear hyv
                  go_wp2_with fail
                  go_ret
                  exact RetB.bool HOK.out (below_trans hbw4 hbi6)
              · have HAll := Lib.hid (fun i (hi : i < N.length - n) => HFJ.out i (by omega))
                go_wp2_with fail
                go_roundw
                case rel =>
                  refine ⟨j + 1, by omega, by go_num, fun i hi k hk1 hk2 => ?_, below_trans hbr4 hbi⟩
                  by_cases hik : i = j
                  · subst hik
                    have := HAll.out (k - n) (by omega)
                    rwa [show n + (k - n) = k by omega] at this
                  · exact HFK.out i (by omega) k hk1 hk2
                case measure => simp [intOf]; omega
          · have HE := Lib.hid (HF2.out (fun k' hk1 hk2 i hi => HFK.out i (by have := HL0.out; omega) k' hk1 hk2))
            go_wp2_with fail
            go_ret
            exact RetB.bool HE.out hbwr
end Go.Proofs.YtkjpnhhkebbmdaaDoor
