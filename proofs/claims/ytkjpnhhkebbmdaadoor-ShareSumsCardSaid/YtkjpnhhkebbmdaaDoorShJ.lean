/-
  Shares: whether they fit.
-/
import Derived.Test.YtkjpnhhkebbmdaaDoorShI
namespace Go.Proofs.YtkjpnhhkebbmdaaDoor
open Go.RowKit

attribute [local go_sem high] sliced_low
def fitAt (p n : Nat) (N : List ShN) (k i : Nat) : Prop := wgN p (wsN p (hsN (N.take n)) (hN N k)) (colN (N.take n) i) n = nthN (vN N k) i
def FitP (p n : Nat) (N : List ShN) : Prop := ∀ k, n ≤ k → k < N.length → ∀ i, i < (vN N 0).length → fitAt p n N k i
noncomputable def fitB (p n : Nat) (N : List ShN) : Bool := @decide (FitP p n N) (Classical.propDecidable _)
noncomputable def ftB (p n h : Int) (S : List Shr) : Bool := if plB p n h = true then (if gdB p h S = true then (if (S.length : Int) ≤ n then true else fitB p.toNat n.toNat (natL S)) else false) else false
theorem ftB_pl {p n h : Int} {S : List Shr} (H : plB p n h = false) : false = ftB p n h S := by unfold ftB; rw [H]; rfl
theorem ftB_gd {p n h : Int} {S : List Shr} (H : gdB p h S = false) : false = ftB p n h S := by unfold ftB; rw [H]; split <;> rfl
theorem ftB_few {p n h : Int} {S : List Shr} (H : plB p n h = true) (H2 : gdB p h S = true) (H3 : (S.length : Int) ≤ n) : true = ftB p n h S := by unfold ftB; rw [H, H2]; simp [H3]
theorem ftB_more {p n h : Int} {S : List Shr} (H : plB p n h = true) (H2 : gdB p h S = true) (H3 : ¬ (S.length : Int) ≤ n) : fitB p.toNat n.toNat (natL S) = ftB p n h S := by unfold ftB; rw [H, H2]; simp [H3]
theorem ftB_no {p n : Nat} {N : List ShN} {b : Bool} (H : fitB p n N = b) (k : Nat) (hk1 : n ≤ k) (hk2 : k < N.length) (i : Nat) (hi : i < (vN N 0).length) (hc : ¬ fitAt p n N k i) : false = b := by
  rw [← H]; exact (@decide_eq_false _ (Classical.propDecidable _) (fun g => hc (g k hk1 hk2 i hi))).symm
theorem ftB_yes {p n : Nat} {N : List ShN} {b : Bool} (H : fitB p n N = b) (hc : FitP p n N) : true = b := by
  rw [← H]; exact (@decide_eq_true _ (Classical.propDecidable _) hc).symm
theorem ShP.drop {P : Nat → Prop} {w : World} {b off c n : Nat} {N : List ShN} (h : ShP P w (some ⟨b, off, none⟩) c (shL N)) (hn : n < N.length) : ShP P w (some ⟨b, off + n * 2, none⟩) (c - n) (shL (N.drop n)) := by
  have hc := h.cap
  refine ⟨fun k hk => ?_, ⟨by rw [shL_len, List.length_drop]; omega, Nat.le_trans (Nat.sub_le _ _) h.ok.cap, (fun e => by cases e), .inr (fun a e => by injection e with e; subst e; rfl)⟩⟩
  rw [shL_len, List.length_drop] at hk
  obtain ⟨b', off', B, c', hA, hb, hP, h1, h2, h3⟩ := h.at_ (n + k) (by rw [shL_len]; omega)
  injection hA with e0
  injection e0 with e1 e2
  subst e1; subst e2
  have e1 : hS (shL (N.drop n)) k = hS (shL N) (n + k) := by simp [hS, shL, List.getD_eq_getElem?_getD]
  have e2 : vS (shL (N.drop n)) k = vS (shL N) (n + k) := by simp [vS, shL, List.getD_eq_getElem?_getD]
  refine ⟨b, off + n * 2, B, c', rfl, hb, hP, ?_⟩
  rw [e1, e2, show off + n * 2 + k * 2 = off + (n + k) * 2 by omega]
  exact ⟨h1, h2, h3⟩
theorem hN_drop {N : List ShN} {n k : Nat} : hN (N.drop n) k = hN N (n + k) := by simp [hN, List.getD_eq_getElem?_getD]
theorem vN_drop {N : List ShN} {n k : Nat} : vN (N.drop n) k = vN N (n + k) := by simp [vN, List.getD_eq_getElem?_getD]

set_option maxRecDepth 100000 in
set_option maxHeartbeats 4000000 in
theorem fits_any {P : Nat → Prop} (p n h : Int) (A : Option Addr) (c : Nat) (S : List Shr) (w : World) (hv : primeV p = validI p) (hB : Bases w) (hS : ShP P w A c S) (hsh : Short S) (hl : S.length ≤ 1048576) :
    Calls Tryd.prog 29 #[planV p n h, .slice A S.length c] w (RetB (.bool (ftB p n h S)) w) := by
  have hva : Calls Tryd.prog 18 #[planV p n h] (w.alloc (.cells #[.int .i64 p, .int .i64 n, .int .i64 h] 24)) (RetB (.bool (plB p n h)) (w.alloc (.cells #[.int .i64 p, .int .i64 n, .int .i64 h] 24))) := valid_plan p n h _ (hB.keep (below_alloc _ _))
  have HB := Lib.hid hB
  have HS := Lib.hid hS
  have HSH := Lib.hid hsh
  clear hS hsh hB
  cases hp : plB p n h with
  | false =>
    have HE := Lib.hid (ftB_pl (S := S) hp)
    rw [hp] at hva
    have HV := Lib.hid hva
    clear hva hp hv
    go_enter Tryd.func29, Tryd.ntmps29
    go_wp2_with fail
    refine ret_below HV.out ?_
    intro w1 hb1
    go_wp2_with fail
    go_ret
    exact RetB.bool HE.out (below_trans (below_alloc _ _) hb1)
  | true =>
    rw [hp] at hva
    have HV := Lib.hid hva
    have hpl := of_decide_eq_true hp
    have hpv : primeV p = true := hv.trans hpl.2.2.2.2
    have hgo : ∀ (W : World), Below w.heap.size w W → Calls Tryd.prog 55 #[planV p n h, .slice A S.length c] W (RetB (.bool (gdB p h S)) W) := fun W hb => good_any p n h A c S W (HS.out.below hb) HSH.out hpl.2.2.1 hl
    cases hq : gdB p h S with
    | false =>
      have HE := Lib.hid (ftB_gd (n := n) hq)
      rw [hq] at hgo
      have HG := Lib.hid hgo
      clear hgo hq hp hv hpv hva hpl
      go_enter Tryd.func29, Tryd.ntmps29
      go_wp2_with fail
      refine ret_below HV.out ?_
      intro w1 hb1
      have hbw := below_trans (below_alloc _ _) hb1
      have hpc := (PlanCell.new (w := w) p n h rfl).below hb1
      have p0 := hpc.c0
      have p1 := hpc.c1
      have p2 := hpc.c2
      go_wp2_with fail
      refine ret_below (HG.out _ hbw) ?_
      intro w2 hb2
      go_wp2_with fail
      go_ret
      exact RetB.bool HE.out (below_trans hbw hb2)
    | true =>
      rw [hq] at hgo
      have HG := Lib.hid hgo
      by_cases hfew : (S.length : Int) ≤ n
      · have HE := Lib.hid (ftB_few hp hq hfew)
        clear hgo hq hp hv hpv hva hpl
        go_enter Tryd.func29, Tryd.ntmps29
        go_wp2_with fail
        refine ret_below HV.out ?_
        intro w1 hb1
        have hbw := below_trans (below_alloc _ _) hb1
        have hpc := (PlanCell.new (w := w) p n h rfl).below hb1
        have p0 := hpc.c0
        have p1 := hpc.c1
        have p2 := hpc.c2
        have HP := Lib.hid hpc
        go_wp2_with fail
        refine ret_below (HG.out _ hbw) ?_
        intro w2 hb2
        have q1 := (HP.out.below hb2).c1
        go_wp2_with fail
        go_ret
        exact RetB.bool HE.out (below_trans hbw hb2)
      · have hne := ftB_more hp hq hfew
        obtain ⟨q, rfl, hqp, hq2⟩ := plan_prime hpl hv
        obtain ⟨l1, l2, l3, l4, -⟩ := hpl
        obtain ⟨n, rfl⟩ := Int.eq_ofNat_of_zero_le (show 0 ≤ n by omega)
        obtain ⟨h, rfl⟩ := Int.eq_ofNat_of_zero_le (show 0 ≤ h by omega)
        obtain ⟨hSN, hg⟩ := gd_nat (gdB_of hq)
        generalize natL S = N at *
        subst hSN
        rw [Int.toNat_natCast, Int.toNat_natCast] at hne
        rw [shL_len] at hfew hl HG ⊢
        have h2 := hqp.1
        have hgT := hg.take n (by omega)
        have htl : (N.take n).length = n := by rw [List.length_take]; omega
        have hvl0 := hg.few 0 (by omega)
        have htv : ∀ k, k < (N.take n).length → (vN (N.take n) k).length = (vN N 0).length := fun k hk => by
          rw [vN_take (by omega)]; exact hg.len k (by omega)
        have HHL := Lib.hid (hgT.hlt (show h < q by omega))
        have HCL := Lib.hid (fun i => hgT.clt (show 1 ≤ q by omega) i)
        have HTV := Lib.hid htv
        have HND := Lib.hid hgT.nd
        have HTL := Lib.hid htl
        have HQP := Lib.hid hqp
        have HGN := Lib.hid hg
        have HF1 := Lib.hid (fun k hk1 hk2 i hi hc => ftB_no hne k hk1 hk2 i hi hc)
        have HF2 := Lib.hid (fun hc => ftB_yes hne hc)

        have i1 : (0 : Int) ≤ (n : Int) := by omega
        have i2 : (n : Int) ≤ (c : Int) := by have := HS.out.cap; omega
        have i4 : (n : Int) ≤ (N.length : Int) := by omega
        have t3 : decide (N.length ≤ n) = false := decide_eq_false (by omega)
        clear hgo hq hp hv hpv hva hg hgT htv htl hqp hne
        go_enter Tryd.func29, Tryd.ntmps29
        go_wp2_with fail
        refine ret_below HV.out ?_
        intro w1 hb1
        have hbw := below_trans (below_alloc _ _) hb1
        have hpc := (PlanCell.new (w := w) q n h rfl).below hb1
        have p0 := hpc.c0
        have p1 := hpc.c1
        have p2 := hpc.c2
        have HP := Lib.hid hpc
        clear hpc
        go_wp2_with fail
        refine ret_below (HG.out _ hbw) ?_
        intro w2 hb2
        have hbw2 := below_trans hbw hb2
        have HP2 := Lib.hid (HP.out.below hb2)
        have q1 := HP2.out.c1
        clear p0 p1 p2 hb1 hbw hb2 HP
        have hn0 : 0 < N.length := by omega
        obtain ⟨b, off, B, c0, rfl, hb0, -, -, -, -, -⟩ := (HS.out.below hbw2).nat hn0
        have hcn : ¬ c = n := by have := HS.out.cap; omega
        have HSD := Lib.hid (HS.out.drop (n := n) (by omega))
        have hws : ∀ (W : World) (X : Option Addr) (cx x : Nat), x < q → NatsAt W X (hsN (N.take n)) → Calls Tryd.prog 51 #[.int .i64 q, .slice X (hsN (N.take n)).length cx, .int .i64 x] W (ListErr (wsN q (hsN (N.take n)) x) 0 W) := fun W X cx x hx hX => by
          have hck0 : ckE (hsN (N.take n)) = 0 := ckE_ok (by rw [hsN_len, HTL.out]; omega) HND.out
          have := weights_any q X (hsN (N.take n)) cx x W h2 (by omega) hX HHL.out (by rw [hsN_len, HTL.out]; omega) hx
          rw [wsR_ok hck0, hck0] at this
          exact this
        have hho : ∀ (W : World), Below w.heap.size w W → Calls Tryd.prog 52 #[.slice (some ⟨b, off, none⟩) n c] W (NewList (hsN (N.take n)) W) := fun W hb => by
          have := holders_any (some ⟨b, off, none⟩) c (N.take n) W (by rw [← shL_take]; exact (HS.out.below hb).take n) (by rw [HTL.out]; omega)
          rw [HTL.out] at this; exact this
        have hvs : ∀ (W : World) (i : Nat), Below w.heap.size w W → i < (vN N 0).length → Calls Tryd.prog 54 #[.slice (some ⟨b, off, none⟩) n c, .int .i64 i] W (NewList (colN (N.take n) i) W) := fun W i hb hi => by
          have := values_any (some ⟨b, off, none⟩) c (N.take n) i W (by rw [← shL_take]; exact (HS.out.below hb).take n) (by rw [HTL.out]; omega) (fun k hk => by rw [HTV.out k hk]; exact hi) (by omega)
          rw [HTL.out] at this; exact this
        have hwg : ∀ (x j : Nat) (W : World) (Y V : Option Addr) (cy cv : Nat), NatsAt W Y (wsN q (hsN (N.take n)) x) → NatsAt W V (colN (N.take n) j) → Calls Tryd.prog 53 #[.int .i64 q, .slice Y (wsN q (hsN (N.take n)) x).length cy, .slice V (colN (N.take n) j).length cv] W (Ret (.int .i64 (wgN q (wsN q (hsN (N.take n)) x) (colN (N.take n) j) n : Nat)) W) := fun x j W Y V cy cv h1 h2 => by
          have hwl : (wsN q (hsN (N.take n)) x).length = n := by rw [wsN_len, hsN_len, HTL.out]
          have hcl : (colN (N.take n) j).length = n := by rw [colN_len, HTL.out]
          have := weigh_any q Y V (wsN q (hsN (N.take n)) x) (colN (N.take n) j) cy cv W (by omega) (by omega) h1 h2 (wsN_lt (by omega) _ _) (HCL.out j) (by rw [hwl, hcl]; omega) (by rw [hcl]; omega)
          rw [hwl] at this ⊢; exact this
        have HWS := Lib.hid hws
        have HHO := Lib.hid hho
        have HVS := Lib.hid hvs
        have HWG := Lib.hid hwg
        clear hws hho hvs hwg
        have lp := HP2.out.lt
        go_wp2_with fail
        go_quiet (fail)
        go_wp2_with fail
        go_loopw [37] (fun i wr => ∃ k : Nat, k ≤ N.length - n ∧ i = .int .i64 k ∧ (∀ j, j < k → ∀ i, i < (vN N 0).length → fitAt q n N (n + j) i) ∧ Below w2.heap.size w2 wr) (fun i _ => N.length - n - (intOf i).toNat)
        case atStart => exact ⟨0, Nat.zero_le _, rfl, fun j hj => absurd hj (by omega), below_drewN (Below.refl _ _) _⟩
        case round =>
          obtain ⟨k, hk, rfl, hfit, hbr⟩ := hrel
          have HFK := Lib.hid hfit
          have hbwr := below_trans hbw2 hbr
          clear hfit
          by_cases hlt : k < N.length - n
          · obtain ⟨b', off', B', c', hA, hb', -, g1, g2, hNt, -⟩ := (HSD.out.below hbwr).nat (show k < (N.drop n).length by rw [List.length_drop]; omega)
            injection hA with e0
            injection e0 with e1 e2
            subst e1; subst e2
            rw [hN_drop] at g1
            rw [vN_drop] at g2 hNt
            have hkl := HGN.out.len (n + k) (by omega)
            have hkr := (HGN.out.rng (n + k) (by omega)).2.1
            have HN := Lib.hid hNt
            have HF1k := Lib.hid (fun (i : Nat) (hi : i < (vN N (n + k)).length) => HF1.out (n + k) (by omega) (by omega) i (by rw [← hkl]; exact hi))
            have hfd : ∀ i, fitAt q n N (n + k) i ↔ wgN q (wsN q (hsN (N.take n)) (hN N (n + k))) (colN (N.take n) i) n = nthN (vN N (n + k)) i := fun i => Iff.rfl
            have HFD := Lib.hid hfd
            have hxq : hN N (n + k) < q := by omega
            have HKL := Lib.hid hkl
            have hvl : (vN N (n + k)).length ≤ 2048 := by omega
            generalize hx : hN N (n + k) = x at *
            generalize hL : vN N (n + k) = L at *
            have HXL := Lib.hid (And.intro hx hL)
            clear hNt hx hL hkl hfd
            have hpr := HP2.out.below hbr
            have HPR := Lib.hid hpr
            clear hpr
            go_wp2_with fail
            refine gen_world fun w3 hw3 => ?_
            have hb3 : Below wr.heap.size wr w3 := by rw [hw3]; exact below_alloc _ _
            have hsc : ShCell w3 wr.heap.size x (.slice B' L.length c') := by rw [hw3]; exact ShCell.new _ _ rfl
            have s0 := hsc.c0
            have HSC := Lib.hid hsc
            have p3 := (HPR.out.below hb3).c0
            have hbw3 := below_trans hbwr hb3
            have ls := blk_lt hsc
            have lp3 := (HPR.out.below hb3).lt
            clear hw3 hsc g1 g2
            go_region_held3 (fun w' => w'.cell? ⟨w.heap.size, 0, none⟩ = some (.int .i64 (q : Int)) ∧ w'.cell? ⟨wr.heap.size, 0, none⟩ = some (.int .i64 (x : Int))) (first | go_keep)
              (first
                | (go_at_call 52; refine (HHO.out _ (by exact hbw3.drew)).mono ?_; intro e w4 hnl; obtain ⟨X, cx, rfl, hX, -, -, hb4⟩ := hnl.open_; have k4 := (hb4.cell (p := ⟨w.heap.size, 0, none⟩) lp3).trans p3; have k5 := (hb4.cell (p := ⟨wr.heap.size, 0, none⟩) ls).trans s0)
                | (go_at_call 51; refine (HWS.out _ X cx x hxq (by exact hX)).mono ?_; rintro e w5 ⟨Y, cy, rfl, hY, -, -, hb5⟩; have k6 := (hb5.cell (p := ⟨w.heap.size, 0, none⟩) (Nat.lt_of_lt_of_le lp3 hb4.size)).trans k4; have k7 := (hb5.cell (p := ⟨wr.heap.size, 0, none⟩) (Nat.lt_of_lt_of_le ls hb4.size)).trans k5))
            have hb35 : Below w3.heap.size w3 w5 := below_trans (below_undrew1 hb4) hb5
            have HY := Lib.hid hY
            have hbw5 := below_trans hbw3 hb35
            have HP5 := Lib.hid ((HPR.out.below hb3).below hb35)
            have z1 := (HSC.out.below hb35).c1
            have hbr5 := below_trans hbr (below_trans hb3 hb35)
            have HN5 := Lib.hid ((HN.out.below hb3).below hb35)
            have HWGx := Lib.hid (HWG.out x)
            clear hX hY hb4 hb5 k4 k5 k6 k7 p3 s0
            generalize wsN q (hsN (N.take n)) x = WS at *
            go_wp2_with fail
            go_loopw [54] (fun i wi => ∃ j : Nat, j ≤ L.length ∧ i = .int .i64 j ∧ (∀ i, i < j → fitAt q n N (n + k) i) ∧ Below w5.heap.size w5 wi) (fun i _ => L.length - (intOf i).toNat)
            case atStart => exact ⟨0, Nat.zero_le _, rfl, fun j hj => absurd hj (by omega), Below.refl _ _⟩
            case round =>
              obtain ⟨j, hj, rfl, hfj, hbi⟩ := hrel
              have HFJ := Lib.hid hfj
              have hbwi := below_trans hbw5 hbi
              clear hfj
              by_cases hjl : j < L.length
              · obtain ⟨b2, o2, rfl, hb2, hc2⟩ := (HN5.out.below hbi) j hjl
                have HDj := Lib.hid (HFD.out j)
                have HF1j := Lib.hid (HF1k.out j hjl)
                have hj0 : j < (vN N 0).length := by rw [← HKL.out]; exact hjl
                have HVSj := Lib.hid (fun W hb => HVS.out W j hb hj0)
                have HWGj := Lib.hid (HWGx.out j)
                have p5 := (HP5.out.below hbi).c0
                have lp5 := (HP5.out.below hbi).lt
                have HYi := Lib.hid (HY.out.below hbi)
                generalize colN (N.take n) j = CC at *
                generalize wgN q WS CC n = y at *
                generalize nthN L j = v at *
                by_cases hyv : y = v
                · have t5 : ((y : Int) != (v : Int)) = false := by simp; omega
                  have t6 : (y != v) = false := by simp [hyv]
                  have HOK := Lib.hid (HDj.out.2 hyv)
                  clear hyv
                  go_wp2_with fail
                  go_region_held3 (fun w' => w'.cell? ⟨w.heap.size, 0, none⟩ = some (.int .i64 (q : Int))) (first | go_keep)
                    (first
                      | (go_at_call 54; refine (HVSj.out _ (by exact hbwi.drew)).mono ?_; intro e w6 hnl; obtain ⟨V, cv, rfl, hV, -, -, hb6⟩ := hnl.open_; have k6 := (hb6.cell (p := ⟨w.heap.size, 0, none⟩) lp5).trans p5)
                      | (go_at_call 53; refine ret_pure (HWGj.out _ _ V cy cv (by exact HYi.out.below (below_undrew1 hb6)) (by exact hV)) ?_))
                  all_goals
                    go_wp2_with fail
                    go_roundw
                    case rel =>
                      refine ⟨j + 1, by omega, by go_num, fun i hi => ?_, below_trans hbi (below_undrew1 hb6)⟩
                      by_cases hij : i = j
                      · subst hij; exact HOK.out
                      · exact HFJ.out i (by omega)
                    case measure => simp [intOf]; omega
                · have t5 : ((y : Int) != (v : Int)) = true := by simp; omega
                  have t6 : (y != v) = true := by simp [hyv]
                  have HOK := Lib.hid (HF1j.out (fun h => hyv (HDj.out.1 h)))
                  clear hyv
                  go_wp2_with fail
                  go_region_held3 (fun w' => w'.cell? ⟨w.heap.size, 0, none⟩ = some (.int .i64 (q : Int))) (first | go_keep)
                    (first
                      | (go_at_call 54; refine (HVSj.out _ (by exact hbwi.drew)).mono ?_; intro e w6 hnl; obtain ⟨V, cv, rfl, hV, -, -, hb6⟩ := hnl.open_; have k6 := (hb6.cell (p := ⟨w.heap.size, 0, none⟩) lp5).trans p5)
                      | (go_at_call 53; refine ret_pure (HWGj.out _ _ V cy cv (by exact HYi.out.below (below_undrew1 hb6)) (by exact hV)) ?_))
                  all_goals
                    go_wp2_with fail
                    go_ret
                    exact RetB.bool HOK.out (below_trans hbwi (below_undrew1 hb6))
              · have HAll := Lib.hid (fun i (hi : i < (vN N 0).length) => HFJ.out i (by have := HKL.out; omega))
                go_wp2_with fail
                go_roundw
                case rel =>
                  refine ⟨k + 1, by omega, by go_num, fun i hi => ?_, below_trans hbr5 hbi⟩
                  by_cases hik : i = k
                  · subst hik; exact HAll.out
                  · exact HFK.out i (by omega)
                case measure => simp [intOf]; omega
          · have HE := Lib.hid (HF2.out (fun k' hk1 hk2 i hi => by
              have := HFK.out (k' - n) (by omega) i hi
              rwa [show n + (k' - n) = k' by omega] at this))
            go_wp2_with fail
            go_ret
            exact RetB.bool HE.out hbwr
end Go.Proofs.YtkjpnhhkebbmdaaDoor
