/-
  Shares: the document's Explain.
  ShareExplains: what stands while shares are explained.
  ShareExplains: the walk.
  A slice of numbers that came in reads as a list.
  Lists of numbers that came in, with what is known of their room.
  A slice of shares that came in reads as a list of shares.
  Conditions: those that each theorem names.
-/
import Derived.Test.YtkjpnhhkebbmdaaDoorM9
import Derived.Deep.SlicePairs
import Derived.ChangeArms
import Derived.OpenShut
set_option linter.unusedVariables false
set_option linter.unusedSimpArgs false
namespace Go.Proofs.YtkjpnhhkebbmdaaDoor
open Go.RowKit Go.Maps

theorem exX_mem {hs : List Nat} {j : Nat} : (j + 1) ∈ hs ↔ (j + 1) ∈ hs := Iff.rfl
theorem exX_held {hs : List Nat} {j : Nat} (h : (j + 1) ∈ hs) : exX hs (j + 1) = exX hs j := by unfold exX; rw [fill_held h]
theorem exX_new {hs : List Nat} {j : Nat} (h : ¬ (j + 1) ∈ hs) : exX hs (j + 1) = exX hs j ++ [j + 1] := by unfold exX; rw [fill_new h]; simp only [List.append_assoc]
theorem exX_many (hs : List Nat) (j : Nat) : j + 1 ≤ (exX hs j).length := by rw [exX_len]; have := fill_many hs j; omega
def yyL (cs : List Nat) (x c : Nat) : List Nat := cs ++ [x] ++ List.replicate c 0
theorem yyL_succ (cs : List Nat) (x c : Nat) : yyL cs x (c + 1) = yyL cs x c ++ [0] := by
  unfold yyL; rw [List.replicate_succ', List.append_assoc, List.append_assoc, List.append_assoc]
theorem yyL_len (cs : List Nat) (x c : Nat) : (yyL cs x c).length = cs.length + 1 + c := by unfold yyL; simp; omega
theorem fill_len_held {hs : List Nat} {j : Nat} (h : (j + 1) ∈ hs) : (fillN hs (j + 1)).length = (fillN hs j).length := by rw [fill_held h]
theorem fill_len_new {hs : List Nat} {j : Nat} (h : ¬ (j + 1) ∈ hs) : (fillN hs (j + 1)).length = (fillN hs j).length + 1 := by rw [fill_new h]; simp
theorem exX_zero' (hs : List Nat) : hs ++ [0] = exX hs 0 := by unfold exX fillN; rw [List.append_nil]
theorem yyL_zero (cs : List Nat) (x : Nat) : cs ++ [x] = yyL cs x 0 := by unfold yyL; rw [List.replicate_zero, List.append_nil]

attribute [local go_sem high] run_make_sh
set_option maxRecDepth 100000 in
set_option maxHeartbeats 8000000 in
theorem refExplain_any {P0 : Nat → Prop} {p n h : Nat} (P : PlanN p n h) (A B : Option Addr) (ca cb : Nat) (S : List Shr) (sec : List Int) (w : World) (hS : ShP P0 w A ca S) (hsh : Short S) (hl : S.length ≤ 1048576) (hI : IntsAt w B sec) (hl2 : sec.length ≤ 1048576) :
    Calls Tryd.prog 41 #[planV p n h, .slice A S.length ca, .slice B sec.length cb] w (ShErr (shL (xpL p n h S sec)) (xpE p n h S sec) w) := by
  have hpv : primeV (p : Int) = true := by rw [P.pv]; have := of_decide_eq_true P.pl; exact this.2.2.2.2
  have hva := refValid_plan p n h (w.alloc (.cells #[.int .i64 (p : Int), .int .i64 (n : Int), .int .i64 (h : Int)] 24)) P.pv
  rw [P.pl] at hva
  have HVAL := Lib.hid hva
  have HGD := Lib.hid (fun (W : World) (hb : Below w.heap.size w W) => refGood_any p n h A ca S W hpv (hS.below hb) hsh hl)
  have HES := Lib.hid (fun (W : World) (hb : Below w.heap.size w W) => refElems_any p B sec cb W hpv (hI.below hb) (by omega))
  have HS := Lib.hid hS
  have HI := Lib.hid hI
  have HPN := Lib.hid P
  have hn1 := P.n1
  have hnh := P.nh
  have hh7 := P.h7
  have hhp := P.hp
  have hp2 := P.p2
  have hp1 := P.p1
  clear hva hS hI hsh P hpv
  cases hgd : gdB p h S with
  | false =>
    have he := xpE_gd (n := n) (sec := sec) hgd
    rw [xpL_no (by rw [he]; decide), he]
    rw [hgd] at HGD
    clear hgd he
    go_enter Tryd.func41, Tryd.ntmps41
    go_wp2_with fail
    refine ret_below HVAL.out ?_
    intro w1 hb1
    have hbw1 := below_trans (below_alloc _ _) hb1
    have HP1 := Lib.hid ((PlanCell.new (w := w) p n h rfl).below hb1)
    have p0 := HP1.out.c0
    have p1 := HP1.out.c1
    have p2 := HP1.out.c2
    go_wp2_with fail
    refine ret_below (HGD.out _ hbw1) ?_
    intro w2 hb2
    have hbw2 := below_trans hbw1 hb2
    have HP2 := Lib.hid (HP1.out.below hb2)
    clear p0 p1 p2
    have p0 := HP2.out.c0
    have p1 := HP2.out.c1
    have p2 := HP2.out.c2
    go_wp2_with fail
    go_ret2
    exact ShErr.nil _ hbw2
  | true =>
    rw [hgd] at HGD
    have HGT := Lib.hid hgd
    clear hgd
    rcases Nat.eq_zero_or_pos S.length with h0 | h0
    · have hln : S.length = 0 ∨ (vS S 0).length = sec.length := .inl h0
      have HLN := Lib.hid hln
      clear hln
      rw [h0] at HGD hl ⊢
      have HZ := Lib.hid h0
      clear h0
      cases hin : inside p sec with
      | false =>
        have he := xpE_in (p := p) (n := n) (h := h) HGT.out HLN.out hin
        rw [xpL_no (by rw [he]; decide), he]
        rw [hin] at HES
        clear he hin
        go_enter Tryd.func41, Tryd.ntmps41
        go_wp2_with fail
        refine ret_below HVAL.out ?_
        intro w1 hb1
        have hbw1 := below_trans (below_alloc _ _) hb1
        have HP1 := Lib.hid ((PlanCell.new (w := w) p n h rfl).below hb1)
        have p0 := HP1.out.c0
        have p1 := HP1.out.c1
        have p2 := HP1.out.c2
        go_wp2_with fail
        refine ret_below (HGD.out _ hbw1) ?_
        intro w2 hb2
        have hbw2 := below_trans hbw1 hb2
        have HP2 := Lib.hid (HP1.out.below hb2)
        clear p0 p1 p2
        have p0 := HP2.out.c0
        have p1 := HP2.out.c1
        have p2 := HP2.out.c2
        go_wp2_with fail
        refine ret_pure (HES.out _ hbw2) ?_
        go_wp2_with fail
        go_ret2
        exact ShErr.nil _ hbw2
      | true =>
        rw [hin] at HES
        by_cases hbig : 2048 < sec.length
        · have he := xpE_few (p := p) (n := n) (h := h) HGT.out HLN.out hin (.inr hbig)
          rw [xpL_no (by rw [he]; decide), he]
          have f0 : ¬ ((n : Int) ≤ ((0 : Nat) : Int)) := by omega
          have f1 : (2048 : Int) < (sec.length : Int) := by omega
          clear he hin
          go_enter Tryd.func41, Tryd.ntmps41
          go_wp2_with fail
          refine ret_below HVAL.out ?_
          intro w1 hb1
          have hbw1 := below_trans (below_alloc _ _) hb1
          have HP1 := Lib.hid ((PlanCell.new (w := w) p n h rfl).below hb1)
          have p0 := HP1.out.c0
          have p1 := HP1.out.c1
          have p2 := HP1.out.c2
          go_wp2_with fail
          refine ret_below (HGD.out _ hbw1) ?_
          intro w2 hb2
          have hbw2 := below_trans hbw1 hb2
          have HP2 := Lib.hid (HP1.out.below hb2)
          clear p0 p1 p2
          have p0 := HP2.out.c0
          have p1 := HP2.out.c1
          have p2 := HP2.out.c2
          go_wp2_with fail
          refine ret_pure (HES.out _ hbw2) ?_
          go_wp2_with fail
          go_ret2
          exact ShErr.nil _ hbw2
        have he := xpE_ok (p := p) (n := n) (h := h) HGT.out HLN.out hin (fun e => e.elim (fun e => by have := HZ.out; omega) hbig)
        rw [xpL_ok he, he]
        obtain ⟨hSN, hg⟩ := gd_nat (gdB_of HGT.out)
        obtain ⟨e1, e2⟩ := inside_nat hin
        have hs1 : (sec.map Int.toNat).length = sec.length := by simp
        have hSNl : (sec.map Int.toNat).length ≤ 2048 := by omega
        have hAn : NatsAt w B (sec.map Int.toNat) := IntsAt.nats (by rw [e1]; exact HI.out)
        have HAN := Lib.hid hAn
        have HG := Lib.hid hg
        have HSP := Lib.hid e2
        have HS1 := Lib.hid hs1
        have hNl : (natL S).length = 0 := by have h1 := natL_len S; have h2 := HZ.out; omega
        have HNL := Lib.hid hNl
        have HVL := Lib.hid (show ∀ k, k < (natL S).length → (vN (natL S) k).length = sec.length from fun k hk => by
          have hk' : k < S.length := by rw [natL_len] at hk; exact hk
          have h1 := hg.len k hk
          have h2 : (vN (natL S) 0).length = (vS S 0).length := by
            conv => rhs; rw [hSN]
            rw [vS_shL, len_ofN]
          rw [h1, h2]
          exact HLN.out.resolve_left (by omega))
        have HNS : Hid (ShP P0 w A ca (shL (natL S))) := by rw [← hSN]; exact HS.out
        have hf0 : ¬ ((n : Int) ≤ ((0 : Nat) : Int)) := by omega
        have hf1 : ¬ ((2048 : Int) < (sec.length : Int)) := by omega
        have hnl2 : 0 + 1 ≤ n := by omega
        have hhl : (hsN (natL S)).length = 0 := by rw [hsN_len]; exact hNl
        have HHR := Lib.hid (show ∀ x ∈ hsN (natL S), x ≤ 4294967296 from fun x hx => by have := hs_rng hg x hx; omega)
        have HXLT := Lib.hid (show ∀ x ∈ hsN (natL S), x < p from fun x hx => by have := hs_rng hg x hx; omega)
        have HPO := Lib.hid (fun (i : Nat) (hi : i < sec.length) (W : World) (hb : Below w.heap.size w W) => points_any A ca (natL S) i W (HNS.out.below hb) (by rw [HNL.out]; omega) (fun k hk => by rw [HVL.out k hk]; exact hi) (by omega))
        rw [hNl] at HPO
        have HHL := Lib.hid hhl
        have hcl : ∀ i, (colN (natL S) i).length = 0 := fun i => by rw [colN_len]; exact hNl
        have HCL := Lib.hid hcl
        have HHN := Lib.hid (fun k (hk : k < (natL S).length) => hsN_nth hk)
        have hmk : h ≤ 1000 := by omega
        have HCP := Lib.hid (fun e => exY_lt (K := natL S) (sec := sec.map Int.toNat) (c := n - 1 - (natL S).length) (e := e) (p := p) (by omega) (fun k hk => (hg.rng k hk).2.2) e2)
        have HDX : Hid (∀ j e x, j < p → (natL S).length + 1 + (fillN (hsN (natL S)) j).length = n → itE (exX (hsN (natL S)) j) (exY (natL S) (sec.map Int.toNat) (fillN (hsN (natL S)) j).length e) = 0 ∧ itV p (exX (hsN (natL S)) j) (exY (natL S) (sec.map Int.toNat) (fillN (hsN (natL S)) j).length e) x = evN p (exF p (hsN (natL S) ++ [0] ++ fillM (hsN (natL S)) (n - 1 - (natL S).length)) (exY (natL S) (sec.map Int.toNat) (n - 1 - (natL S).length)) e) x) := Lib.hid (fun j e x hj hf => by
          have h1 : (fillN (hsN (natL S)) j).length = n - 1 - (natL S).length := by omega
          have h2 := expl_it HPN.out hg e2 hj e x
          rw [fillM_of h1, ← h1]
          exact h2)
        clear he hin hbig hSN hg e1 e2 hs1 hAn hNl hhl hcl HS HI HZ HLN HGT
        generalize sec.map Int.toNat = SN at *
        generalize natL S = N at *
        have HXP : Hid (∀ j, j < p → ∀ y ∈ exX (hsN N) j, y < p) := Lib.hid (fun j hj => exX_lt HXLT.out hj)
        have HYY : Hid (∀ e c, exY N SN c e = yyL (colN N e) (nthN SN e) c) := Lib.hid (fun e c => rfl)
        obtain ⟨cF, hcF⟩ : ∃ cF, cF = n - 1 - N.length := ⟨_, rfl⟩
        have hxm : xpM p n h N SN = exT p h SN.length (exF p (hsN N ++ [0] ++ fillM (hsN N) cF) (exY N SN cF)) := by rw [hcF]; rfl
        have HXM := Lib.hid hxm
        rw [← hcF] at HCP HDX
        have hcF1 : cF + (0 + 1) = n := by rw [HNL.out] at hcF; omega
        clear hxm hcF
        generalize exF p (hsN N ++ [0] ++ fillM (hsN N) cF) (exY N SN cF) = FF at *
        go_enter Tryd.func41, Tryd.ntmps41
        go_wp2_with fail
        refine ret_below HVAL.out ?_
        intro w1 hb1
        have hbw1 := below_trans (below_alloc _ _) hb1
        have HP1 := Lib.hid ((PlanCell.new (w := w) p n h rfl).below hb1)
        have p0 := HP1.out.c0
        have p1 := HP1.out.c1
        have p2 := HP1.out.c2
        go_wp2_with fail
        refine ret_below (HGD.out _ hbw1) ?_
        intro w2 hb2
        have hbw2 := below_trans hbw1 hb2
        have HP2 := Lib.hid (HP1.out.below hb2)
        clear p0 p1 p2
        have p0 := HP2.out.c0
        have p1 := HP2.out.c1
        have p2 := HP2.out.c2
        go_wp2_with fail
        refine ret_pure (HES.out _ hbw2) ?_
        have hmm := @run_makeMap Tryd.prog
        go_wp2_with fail
        refine gen_world fun w4 hw4 => ?_
        have hbw4 : Below w2.heap.size w2 w4 := by rw [hw4]; exact below_alloc _ _
        have HM4 : Hid (w4.ownsMap Tryd.prog 3 (plainElem Tryd.prog 4) w2.heap.size 0 (Sn (H := Unit) (hsN N) 0)) := Lib.hid (by rw [hw4, Sn_zero]; exact World.ownsMap_made _ _ _ _)
        clear hw4 p0 p1 p2
        have hwb : w.heap.size < w2.heap.size := HP2.out.lt
        go_loopw [65] (fun i wr => ∃ k : Nat, k ≤ 0 ∧ i = .int .i64 k ∧ wr.ownsMap Tryd.prog 3 (plainElem Tryd.prog 4) w2.heap.size k (Sn (H := Unit) (hsN N) k) ∧ Below w2.heap.size w2 wr) (fun i _ => 0 - (intOf i).toNat)
        case atStart => exact ⟨0, Nat.zero_le _, rfl, HM4.out, hbw4⟩
        case round =>
          obtain ⟨k, hk, rfl, hown, hbr⟩ := hrel
          have HM := Lib.hid hown
          clear hown
          have hbwr := below_trans hbw2 hbr
          have hszr := hbr.size
          by_cases hlt : k < 0
          · exact absurd hlt (by omega)
          · obtain rfl : k = 0 := by omega
            obtain ⟨w4', hw4'⟩ : ∃ w4' : World, w4' = wr := ⟨_, rfl⟩
            rw [← hw4'] at HM hbr hbwr hszr
            rw [← hw4']
            clear hw4' HM4 hbw4
            have HP4 := Lib.hid (HP2.out.below hbr)
            have p2 := HP4.out.c2
            have hml := HM.out.lt
            go_wp2_with fail
            refine gen_world fun w5 hw5 => ?_
            have hb5 : Below w4'.heap.size w4' w5 := by rw [hw5]; exact below_alloc _ _
            have HO5 : Hid (HvOwn w5 w4'.heap.size (.slice (some ⟨w4'.heap.size, 0, none⟩) h h) (hhL h 0)) := Lib.hid (by rw [hw5, ← hhL_zero]; exact own_made _ _ (by omega))
            clear hw5 p2
            obtain ⟨g, hg⟩ : ∃ g, g = w4'.heap.size := ⟨_, rfl⟩
            rw [← hg] at HO5 hb5 hml
            rw [← hg]
            have hgw : w.heap.size < g := by omega
            have hgE1 : g ≤ w4'.heap.size := by omega
            have hgE2 : w4'.heap.size ≤ g := by omega
            clear hg
            have HMg := Lib.hid hml
            go_wp2_with fail
            go_loopw [78] (fun i wr => ∃ k : Nat, k ≤ h ∧ i = .int .i64 k ∧ HvOwn wr g (.slice (some ⟨g, 0, none⟩) h h) (hhL h k) ∧ Below g w4' wr) (fun i _ => h - (intOf i).toNat)
            case atStart => exact ⟨0, Nat.zero_le _, rfl, HO5.out, hb5⟩
            case round =>
              obtain ⟨t, ht, rfl, hown, hbt⟩ := hrel
              have HO := Lib.hid hown
              clear hown
              by_cases htl : t < h
              · obtain ⟨g2, c2, hv, hg2, -, -, -, hcell, hfr⟩ := HO.out.form (by rw [hhL_len]; omega)
                injection hv with ev1 ev2 ev3
                injection ev1 with ev1
                injection ev1 with ev1
                subst ev1
                obtain ⟨x0, x1⟩ := hcell t (by rw [hhL_len]; exact htl)
                have xf := hfr (t * 2)
                have i1 : (0 : Int) ≤ (t : Int) := by omega
                have i2 : (t : Int) < (h : Int) := by omega
                clear hcell hfr ev2 ev3
                go_wp2_with fail
                have hst := HO.out
                rw [show (Value.slice (some ⟨g, 0, none⟩) h h) = .slice (some ⟨g, 0, none⟩) (hhL h t).length h by rw [hhL_len]] at hst
                have hst2 := hst.set0 t (by rw [hhL_len]; exact htl) ((t : Int) + 1)
                rw [hhL_len, hhL_succ htl] at hst2
                have HST := Lib.hid hst2
                clear hst hst2 x0 x1 xf
                go_roundw
                case rel => exact ⟨t + 1, by omega, by go_num, HST.out, hbt.setCell (p := ⟨g, t * 2, none⟩) (Nat.le_refl _) _⟩
                case measure => simp [intOf]; omega
              · obtain rfl : t = h := by omega
                have HR0 := Lib.hid (rows_hh HO.out)
                obtain ⟨w6, hw6⟩ : ∃ w6 : World, w6 = wr := ⟨_, rfl⟩
                rw [← hw6] at HR0 hbt
                rw [← hw6]
                clear hw6 HO HO5 hb5
                have HR1 : Hid (Rows2 w6 g (.slice (some ⟨g, 0, none⟩) t t) (hhL t t) (exT p t 0 FF)) := by rw [exT_zero]; exact HR0.out
                have hz6 := hbt.size
                go_wp2_with fail
                go_loopw [90] (fun i wr => ∃ (m : Nat) (H : List HV), m ≤ sec.length ∧ i = .int .i64 m ∧ Rows2 wr g (.slice (some ⟨g, 0, none⟩) t t) H (exT p t m FF) ∧ Below g w4' wr) (fun i _ => sec.length - (intOf i).toNat)
                case atStart => exact ⟨0, _, Nat.zero_le _, rfl, HR1.out, hbt⟩
                case round =>
                  obtain ⟨m, H, hm, rfl, hR, hbm⟩ := hrel
                  have HR := Lib.hid hR
                  clear hR HR0 HR1 hbt hz6
                  have hgm : g ≤ wr.heap.size := by have := (World.ownsRow.lt HR.out.out g rfl).2; omega
                  by_cases hml2 : m < sec.length
                  · obtain ⟨bA, oA, rfl, hbA, hcA⟩ := HAN.out m (by rw [HS1.out]; exact hml2)
                    have hbwm : Below w.heap.size w wr := hbwr.trans (hbm.mono (by omega))
                    have hcA2 := (hbwm.cell (p := ⟨bA, oA + m, none⟩) hbA).trans hcA
                    have hbAr : bA < wr.heap.size := Nat.lt_of_lt_of_le hbA hbwm.size
                    have HPm : Hid (PlanCell wr w.heap.size p n t) := Lib.hid (HP4.out.keep (hbm.block _ (by omega)))
                    have HMm := Lib.hid (map_keep HM.out (hbm.block _ HMg.out))
                    have HDm := Lib.hid (fun j x => HDX.out j m x)
                    have HYm := Lib.hid (fun c => HYY.out m c)
                    have HPm0 := Lib.hid (HPO.out m hml2)
                    have HCm := Lib.hid (HCL.out m)
                    have HCPm := Lib.hid (HCP.out m)
                    have HSTm := Lib.hid (exT_succ p t m FF)
                    have HTL := Lib.hid (exT_len p t m FF)
                    have HTA := Lib.hid (fun j (hj : j < t) => exT_at (p := p) (m := m) (F := FF) hj)
                    rw [HYm.out cF] at HCPm
                    generalize FF m = f at HDm HSTm
                    generalize colN N m = col at *
                    generalize nthN SN m = x at *
                    generalize exT p t m FF = T at *
                    obtain ⟨wq, hwq⟩ : ∃ wq : World, wq = wr := ⟨_, rfl⟩
                    rw [← hwq] at HR hbm hgm hbwm hcA2 hbAr HPm HMm
                    rw [← hwq]
                    clear hwq hcA
                    go_wp2_with fail
                    refine (HPm0.out wq hbwm).mono ?_
                    rintro e w7 ⟨XA, xc, YA, yc, rfl, hT7⟩
                    have HT7 := Lib.hid hT7
                    have hcl1 : col.length ≤ 4194304 := by rw [HCm.out]; omega
                    have hsl1 : (hsN N).length ≤ 4194304 := by rw [HHL.out]; omega
                    have HLX := Lib.hid (exX_zero' (hsN N))
                    have HLY := Lib.hid (yyL_zero col x)
                    clear hT7 hcA2
                    go_wp2_with (first
                      | (at_builtin; refine app_two rfl (.tmp 101) (.tmp 102) rfl (w0 := wq) (base := wq.heap.size) (lo := wq.heap.size) (X := hsN N) (Y := col) (y := 0) rfl rfl (HT7.out.alloc _) (lit1_at _ _ 0 rfl) hsl1 ?_; intro v8 w8 hT8; rw [HLX.out] at hT8; obtain ⟨X8, x8c, Y8, y8c, rfl, -⟩ := hT8.forms; have HT8 := Lib.hid hT8; clear hT8)
                      | (at_builtin; refine app_two rfl (.tmp 104) (.tmp 106) rfl (w0 := wq) (base := wq.heap.size) (lo := wq.heap.size) (X := col) (Y := exX (hsN N) 0) (y := x) rfl rfl (HT8.out.swap.alloc _) (lit1_at _ _ x rfl) hcl1 ?_; intro v9 w9 hT9; rw [HLY.out] at hT9; obtain ⟨Y9, y9c, X9, x9c, rfl, -⟩ := hT9.forms; have HT9 := Lib.hid hT9.swap; clear hT9))
                    go_loopw [15, 16, 17] (fun vx vy i wr => ∃ j : Nat, i = .int .i64 ((j : Int) + 1) ∧ (exX (hsN N) j).length ≤ n ∧ Two wq wr wq.heap.size wq.heap.size vx (exX (hsN N) j) vy (yyL col x (fillN (hsN N) j).length)) (fun _ _ i _ => n - (intOf i).toNat)
                    case atStart =>
                      refine ⟨0, rfl, ?_, HT9.out⟩
                      have h1 := exX_len (hsN N) 0
                      have h2 : (fillN (hsN N) 0).length = 0 := rfl
                      rw [HHL.out, h2] at h1; omega
                    case round =>
                      obtain ⟨j, rfl, hjl, hTj⟩ := hrel
                      have hmany := exX_many (hsN N) j
                      have hbq : Below wq.heap.size wq wr := hTj.below
                      obtain ⟨XA2, xc2, YA2, yc2, rfl, rfl⟩ := hTj.forms
                      have HT := Lib.hid hTj
                      have HPr := Lib.hid (HPm.out.below hbq)
                      have q0 := HPr.out.c0
                      have q1 := HPr.out.c1
                      clear hTj
                      have hel := exX_len (hsN N) j
                      rw [HHL.out] at hel
                      by_cases hlt : (exX (hsN N) j).length < n
                      · have HMr := Lib.hid (map_keep HMm.out (hbq.block _ (by have := HMg.out; omega)))
                        have hyl := yyL_len col x (fillN (hsN N) j).length
                        rw [HCm.out] at hyl
                        have hyl1 : (yyL col x (fillN (hsN N) j).length).length ≤ 4194304 := by omega
                        have hat := Sn_at (hsN N) (j + 1) (hsN N).length (Nat.le_refl _)
                        rw [List.take_length, HHL.out] at hat
                        by_cases hmem : (j + 1) ∈ hsN N
                        · rw [decide_eq_true hmem] at hat
                          have hlk := look_bool HMr.out (x := j + 1) (by omega) hat
                          have HXE := Lib.hid (exX_held hmem)
                          have HYE := Lib.hid (fill_len_held hmem)
                          clear hat hmem hyl hel
                          have hlk2 := hlk
                          push_cast at hlk2
                          generalize hXX : exX (hsN N) j = X at *
                          generalize hYY : yyL col x (fillN (hsN N) j).length = Y at *
                          have HYY2 := Lib.hid hYY
                          clear hYY
                          go_wp2_with fail
                          go_roundw
                          case rel => exact ⟨j + 1, by go_num, by rw [HXE.out]; exact hjl, by rw [HXE.out, HYE.out, HYY2.out]; exact HT.out⟩
                          case measure => simp [intOf]; omega
                        · rw [decide_eq_false hmem] at hat
                          have hlk := look_bool HMr.out (x := j + 1) (by omega) hat
                          have HXE := Lib.hid (exX_new hmem)
                          have HYE := Lib.hid (fill_len_new hmem)
                          have HYS := Lib.hid (yyL_succ col x (fillN (hsN N) j).length)
                          clear hat hmem hyl hel
                          have hlk2 := hlk
                          push_cast at hlk2
                          have hxl1 : (exX (hsN N) j).length ≤ 4194304 := by omega
                          generalize hXX : exX (hsN N) j = X at *
                          generalize hYY : yyL col x (fillN (hsN N) j).length = Y at *
                          clear hYY
                          go_wp2_with (first
                            | (at_builtin; refine app_two rfl (.tmp 119) (.tmp 121) rfl (w0 := wq) (base := wq.heap.size) (lo := wq.heap.size) (X := X) (Y := Y) (y := j + 1) rfl rfl (HT.out.alloc _) (lit1_at _ _ (j + 1) rfl) hxl1 ?_; intro v10 w10 hT10; obtain ⟨X10, x10c, Y10, y10c, rfl, -⟩ := hT10.forms; have HT10 := Lib.hid hT10; clear hT10)
                            | (at_builtin; refine app_two rfl (.tmp 123) (.tmp 124) rfl (w0 := wq) (base := wq.heap.size) (lo := wq.heap.size) (X := Y) (Y := X ++ [j + 1]) (y := 0) rfl rfl (HT10.out.swap.alloc _) (lit1_at _ _ 0 rfl) hyl1 ?_; intro v11 w11 hT11; obtain ⟨Y11, y11c, X11, x11c, rfl, -⟩ := hT11.forms; have HT11 := Lib.hid hT11.swap; clear hT11))
                          go_roundw
                          case rel => exact ⟨j + 1, by go_num, by rw [HXE.out, List.length_append]; simp; omega, by rw [HXE.out, HYE.out, HYS.out]; have h1 := HT11.out; simp only [List.length_append, List.length_cons, List.length_nil] at h1; exact h1⟩
                          case measure => simp [intOf]; omega
                      · have hxn : (exX (hsN N) j).length = n := by omega
                        have hjp : j < p := by omega
                        have hfc : (fillN (hsN N) j).length = cF := by omega
                        rw [hfc] at HT
                        rw [hfc]
                        have hfn : N.length + 1 + (fillN (hsN N) j).length = n := by rw [HNL.out, hfc]; omega
                        have HDj := Lib.hid (fun y => HDm.out j y hjp hfn)
                        rw [hfc, HYm.out cF] at HDj
                        have HXPj := Lib.hid (HXP.out j hjp)
                        have hyl := yyL_len col x cF
                        rw [HCm.out] at hyl
                        have hTl := HT.out.lists
                        have hTg := HT.out.ge
                        have HRr := Lib.hid (HR.out.below hbq)
                        have hbr2 : Below g wq wr := hbq.mono hgm
                        have HFX := Lib.hid (far_new (lo := 0) HR.out (F := XA2) (fun b off e => (hTg.1 b off e).1))
                        have HFY := Lib.hid (far_new (lo := 0) HR.out (F := YA2) (fun b off e => (hTg.2 b off e).1))
                        have HXL := Lib.hid (fun b off e => (hTg.1 b off e).2)
                        have HYL := Lib.hid (fun b off e => (hTg.2 b off e).2)
                        have HNX := Lib.hid hTl.1
                        have HOX := Lib.hid hTl.2.1
                        have HNY := Lib.hid hTl.2.2.1
                        have HOY := Lib.hid hTl.2.2.2
                        rw [HTL.out] at HFX HFY
                        clear hTl hTg hfn hel hmany
                        generalize hXX : exX (hsN N) j = X at *
                        generalize hYY : yyL col x cF = Y at *
                        have HXN := Lib.hid hxn
                        have HYN := Lib.hid hyl
                        clear hXX hYY hyl hxn hfc
                        obtain ⟨ws, hws⟩ : ∃ ws : World, ws = wr := ⟨_, rfl⟩
                        rw [← hws] at HRr HNX HNY HXL HYL HPr hbr2
                        rw [← hws]
                        clear hws q0 q1
                        have q1 := HPr.out.c1
                        have HRS : Hid (Rows2 ws g (.slice (some ⟨g, 0, none⟩) t t) H (stepT p f T 0)) := by rw [stepT_zero]; exact HRr.out
                        have hgs : g ≤ ws.heap.size := Nat.le_trans hgm hbr2.size
                        go_wp2_with fail
                        go_loopw [128] (fun i wr => ∃ (s : Nat) (H : List HV), s ≤ t ∧ i = .int .i64 s ∧ Rows2 wr g (.slice (some ⟨g, 0, none⟩) t t) H (stepT p f T s) ∧ FarF XA2 (.slice (some ⟨g, 0, none⟩) t t) H t ∧ FarF YA2 (.slice (some ⟨g, 0, none⟩) t t) H t ∧ NatsAt wr XA2 X ∧ NatsAt wr YA2 Y ∧ Below g ws wr) (fun i _ => t - (intOf i).toNat)
                        case atStart => exact ⟨0, H, Nat.zero_le _, rfl, HRS.out, HFX.out, HFY.out, HNX.out, HNY.out, Below.refl _ _⟩
                        case round =>
                          obtain ⟨s, H2, hs, rfl, hR, hFX, hFY, hNX, hNY, hbs⟩ := hrel
                          have hlw := hbs.size
                          have HSZ := Lib.hid hbs.size
                          have HPs : Hid (PlanCell wr w.heap.size p n t) := Lib.hid (HPr.out.keep (hbs.block _ (by omega)))
                          by_cases hst : s < t
                          · have hsS : s < (stepT p f T s).length := by rw [stepT_len, HTL.out]; exact hst
                            have hHl : H2.length = t := by rw [hR.len, stepT_len, HTL.out]
                            obtain ⟨g2, c2, RB, rc, hv, hv2, hg2, hbg, g1, g2c, gf⟩ := hR.slot hsS
                            injection hv with ev1 ev2 ev3
                            injection ev1 with ev1
                            injection ev1 with ev1
                            subst ev1
                            have HROW := Lib.hid (hR.row s hsS)
                            have HSUC := Lib.hid (stepT_succ (p := p) (f := f) (T := T) (k := s) (by rw [HTL.out]; exact hst))
                            obtain ⟨e1, e2⟩ := stepT_at (p := p) (f := f) (T := T) (k := s) (j := s) (by rw [HTL.out]; exact hst)
                            rw [if_neg (by omega)] at e2
                            obtain ⟨e3, e4⟩ := HTA.out s hst
                            have hvk : (vN T s).length = m := by rw [e4]; simp
                            rw [hv2] at HROW
                            have HV2 := Lib.hid hv2
                            have gf1 := gf (s * 2 + 1)
                            have hR' : Rows2 wr g (.slice (some ⟨g, 0, none⟩) H2.length t) H2 (stepT p f T s) := by rw [hHl]; exact hR
                            have HR' := Lib.hid hR'
                            rw [e2] at HROW g2c
                            rw [e1, e2, e3] at HSUC
                            have HE := Lib.hid (And.intro e1 e2)
                            have HE3 := Lib.hid e3
                            obtain ⟨d1, d2⟩ := HDj.out (s + 1)
                            have HIT := Lib.hid (fun (W : World) (h1 : NatsAt W XA2 X) (h2 : NatsAt W YA2 Y) => refInterpolate_any p XA2 YA2 X Y xc2 yc2 (s + 1) W HPN.out.pr (by omega) h1 HOX.out h2 HXPj.out HCPm.out (by rw [HXN.out]; omega) (by rw [HYN.out]; omega) (by omega))
                            rw [d1, d2] at HIT
                            generalize hL : vN T s = L at *
                            have HLL := Lib.hid hL
                            generalize evN p f (s + 1) = y at *
                            push_cast at HIT
                            have HGB := Lib.hid (fun (w4 W w5 : World) (h1 : Below wr.heap.size wr w4) (h2 : Below w4.heap.size w4 W) (h3 : W.grownBy w5 (Value.slice RB L.length rc).ownBlock) => grown_blk (g := g) hg2 h1 h2 h3 (fun e => HR'.out.no s hsS g (by rw [HV2.out, HE.out.2]; exact e.symm) rfl))
                            have HFX2 := Lib.hid hFX
                            have HFY2 := Lib.hid hFY
                            have HNX2 := Lib.hid hNX
                            have HNY2 := Lib.hid hNY
                            have q0 := HPs.out.c0
                            have i1 : (0 : Int) ≤ (s : Int) := by omega
                            have i2 : (s : Int) < (t : Int) := by omega
                            have hln : L.length ≤ 2048 := by omega
                            have HHL2 := Lib.hid hHl
                            clear hvk hHl hR hR' hFX hFY hNX hNY hL e1 e2 e3 e4 d1 d2 hv2 gf ev2 ev3
                            go_wp2_with fail
                            refine ret_below (HIT.out _ HNX2.out HNY2.out) ?_
                            intro w12 hb12
                            have m2 := (hb12.cell (p := ⟨g, s * 2 + 1, none⟩) hg2).trans g2c
                            have lg12 : g < w12.heap.size := Nat.lt_of_lt_of_le hg2 hb12.size
                            have hb12' : g ≤ w12.heap.size := Nat.le_of_lt lg12
                            have HRW := Lib.hid (own_below HROW.out hb12)
                            go_wp2_with (at_builtin; refine Hid.out ?_)
                            refine Lib.hid ?_
                            refine app_nats_at rfl (.tmp 147) (.tmp 149) rfl (base := g) (S := L) (T := [y]) rfl (HRW.out.alloc _) rfl ((lit1_at _ _ y rfl).nats.news rfl) (by simp; omega) (by simp; omega) ?_
                            intro v13 w13 hown13 hg13 hbW13 hat13
                            obtain ⟨A13, c13, rfl, -, -, -⟩ := own_sl hown13 rfl
                            have hl13 : (L ++ [y]).length = L.length + 1 := by simp
                            rw [hl13] at hown13 hat13
                            rw [hl13]
                            obtain ⟨g13, rfl, -, -⟩ := own_one hown13 (Nat.succ_pos _)
                            have hblk := HGB.out _ _ _ hb12 (below_alloc w12 _) hg13
                            have n2 : w13.cell? ⟨g, s * 2 + 1, none⟩ = some (.slice RB L.length rc) := (World.cell?_of_block (w := wr) hblk).trans g2c
                            have n3 : w13.frozen? ⟨g, s * 2 + 1, none⟩ = false := (frozen_of_block hblk).trans gf1
                            have hXlt : ∀ bF off, XA2 = some ⟨bF, off, none⟩ → bF < wr.heap.size := fun bF off e => Nat.lt_of_lt_of_le (HXL.out bF off e) HSZ.out
                            have hYlt : ∀ bF off, YA2 = some ⟨bF, off, none⟩ → bF < wr.heap.size := fun bF off e => Nat.lt_of_lt_of_le (HYL.out bF off e) HSZ.out
                            have hb45 : Below g w12 w13 := ((below_alloc w12 _).mono hb12').trans hbW13
                            have hfx : FarF XA2 (.slice (some ⟨g, 0, none⟩) H2.length t) H2 (stepT p f T s).length := by rw [stepT_len, HTL.out, HHL2.out]; exact HFX2.out
                            have hfy : FarF YA2 (.slice (some ⟨g, 0, none⟩) H2.length t) H2 (stepT p f T s).length := by rw [stepT_len, HTL.out, HHL2.out]; exact HFY2.out
                            have hat14 : (hvAt H2 s).2.ownBlock = some g13 ∨ g13 = (w12.alloc (.cells #[.int .i64 (y : Int)] 3)).heap.size := by
                              rw [HV2.out, HE.out.2]
                              rcases hat13 with e | e
                              · exact .inl (e.symm.trans rfl).symm.symm
                              · exact .inr (Option.some.inj e)
                            have hown14 : w13.ownsRow g 3 1 (.slice (some ⟨g13, 0, none⟩) ((vN (stepT p f T s) s).length + 1) c13) ((vN (stepT p f T s) s).length + 1) (valsN (vN (stepT p f T s) s ++ [y])) := by rw [HE.out.2]; exact hown13
                            have hg14 : (w12.alloc (.cells #[.int .i64 (y : Int)] 3)).grownBy w13 (hvAt H2 s).2.ownBlock := by rw [HV2.out, HE.out.2]; exact hg13
                            obtain ⟨-, n4, n5, n6, n7⟩ := deal_next (d := w.heap.size) (F := XA2) hgw (by omega) HR'.out hsS hfx HNX2.out hXlt hb12 (below_alloc w12 _) hown14 hg14 hat14 hb45
                            obtain ⟨-, -, n8, n9, -⟩ := deal_next (d := w.heap.size) (F := YA2) hgw (by omega) HR'.out hsS hfy HNY2.out hYlt hb12 (below_alloc w12 _) hown14 hg14 hat14 hb45
                            rw [HE.out.1, HE.out.2, HE3.out, ← HSUC.out, HHL2.out] at n4
                            rw [HE.out.2, stepT_len, HTL.out, HHL2.out] at n5 n8
                            rw [HE.out.2] at n6 n7 n9
                            have HN4 := Lib.hid n4
                            have HN5 := Lib.hid n5
                            have HN6 := Lib.hid n6
                            have HN7 := Lib.hid (hbs.trans n7)
                            have HN8 := Lib.hid n8
                            have HN9 := Lib.hid n9
                            clear n4 n5 n6 n7 n8 n9 hown13 hg13 hat13 hown14 hg14 hat14 hfx hfy hXlt hYlt hb45 hblk
                            go_wp2_with fail
                            go_roundw
                            case rel => exact ⟨s + 1, _, by omega, by go_num, HN4.out, HN5.out, HN8.out, HN6.out, HN9.out, HN7.out⟩
                            case measure => simp [intOf]; omega
                          · obtain rfl : s = t := by omega
                            have hfin : Rows2 wr g (.slice (some ⟨g, 0, none⟩) s s) H2 (stepT p f T T.length) := by rw [HTL.out]; exact hR
                            rw [HSTm.out] at hfin
                            have HFIN := Lib.hid (And.intro hfin (hbm.trans (hbr2.trans hbs)))
                            clear hfin hR hFX hFY hNX hNY
                            go_wp2_with fail
                            go_roundw
                            case rel =>
                              repeat (apply Exists.intro)
                              refine And.intro ?_ rfl
                              exact ⟨m + 1, _, by omega, by go_num, HFIN.out.1, HFIN.out.2⟩
                            case measure => simp [intOf]; omega
                  · obtain rfl : m = sec.length := by omega
                    obtain ⟨XR, cx, ev, hXR⟩ := HR.out.read
                    rw [exT_len] at ev
                    injection ev with ev1 ev2 ev3
                    subst ev1; subst ev3
                    have hX2 : ShP (fun b => w.heap.size ≤ b) wr (some ⟨g, 0, none⟩) t (shL (xpM p n t N SN)) := by rw [HXM.out, HS1.out]; exact hXR.mono (fun b _ hb => by omega)
                    have HX := Lib.hid hX2
                    have HBF := Lib.hid (hbwr.trans (hbm.mono (by omega)))
                    clear hXR hX2
                    go_wp2_with fail
                    go_ret2
                    exact ⟨_, t, by rw [shL_len, xpM_len]; rfl, HX.out, HBF.out⟩

    · obtain ⟨b, off, B0, c0, rfl, hb0, -, q0, q1, -⟩ := HS.out.at_ 0 h0
      rw [Nat.zero_mul, Nat.add_zero] at q1
      have g0 : (0 : Int) < (S.length : Int) := by omega
      clear q0
      by_cases hsl : (vS S 0).length = sec.length
      · have hln : S.length = 0 ∨ (vS S 0).length = sec.length := .inr hsl
        have HLN := Lib.hid hln
        have t0 : (((vS S 0).length : Int) != (sec.length : Int)) = false := by simp; omega
        have HZ := Lib.hid (show S.length = S.length from rfl)
        clear hln hsl
        cases hin : inside p sec with
        | false =>
          have he := xpE_in (p := p) (n := n) (h := h) HGT.out HLN.out hin
          rw [xpL_no (by rw [he]; decide), he]
          rw [hin] at HES
          clear he hin
          go_enter Tryd.func41, Tryd.ntmps41
          go_wp2_with fail
          refine ret_below HVAL.out ?_
          intro w1 hb1
          have hbw1 := below_trans (below_alloc _ _) hb1
          have HP1 := Lib.hid ((PlanCell.new (w := w) p n h rfl).below hb1)
          have p0 := HP1.out.c0
          have p1 := HP1.out.c1
          have p2 := HP1.out.c2
          go_wp2_with fail
          refine ret_below (HGD.out _ hbw1) ?_
          intro w2 hb2
          have hbw2 := below_trans hbw1 hb2
          have HP2 := Lib.hid (HP1.out.below hb2)
          clear p0 p1 p2
          have p0 := HP2.out.c0
          have p1 := HP2.out.c1
          have p2 := HP2.out.c2
          have u1 := (hbw2.cell (p := ⟨b, off + 1, none⟩) hb0).trans q1
          go_wp2_with fail
          refine ret_pure (HES.out _ hbw2) ?_
          go_wp2_with fail
          go_ret2
          exact ShErr.nil _ hbw2
        | true =>
          rw [hin] at HES
          by_cases hfew : n ≤ S.length
          · have he := xpE_few (p := p) (n := n) (h := h) HGT.out HLN.out hin (.inl hfew)
            rw [xpL_no (by rw [he]; decide), he]
            have f1 : (n : Int) ≤ (S.length : Int) := by omega
            clear he hin
            go_enter Tryd.func41, Tryd.ntmps41
            go_wp2_with fail
            refine ret_below HVAL.out ?_
            intro w1 hb1
            have hbw1 := below_trans (below_alloc _ _) hb1
            have HP1 := Lib.hid ((PlanCell.new (w := w) p n h rfl).below hb1)
            have p0 := HP1.out.c0
            have p1 := HP1.out.c1
            have p2 := HP1.out.c2
            go_wp2_with fail
            refine ret_below (HGD.out _ hbw1) ?_
            intro w2 hb2
            have hbw2 := below_trans hbw1 hb2
            have HP2 := Lib.hid (HP1.out.below hb2)
            clear p0 p1 p2
            have p0 := HP2.out.c0
            have p1 := HP2.out.c1
            have p2 := HP2.out.c2
            have u1 := (hbw2.cell (p := ⟨b, off + 1, none⟩) hb0).trans q1
            go_wp2_with fail
            refine ret_pure (HES.out _ hbw2) ?_
            go_wp2_with fail
            go_ret2
            exact ShErr.nil _ hbw2
          by_cases hbig : 2048 < sec.length
          · have he := xpE_few (p := p) (n := n) (h := h) HGT.out HLN.out hin (.inr hbig)
            rw [xpL_no (by rw [he]; decide), he]
            have f0 : ¬ ((n : Int) ≤ ((S.length : Nat) : Int)) := by omega
            have f1 : (2048 : Int) < (sec.length : Int) := by omega
            clear he hin
            go_enter Tryd.func41, Tryd.ntmps41
            go_wp2_with fail
            refine ret_below HVAL.out ?_
            intro w1 hb1
            have hbw1 := below_trans (below_alloc _ _) hb1
            have HP1 := Lib.hid ((PlanCell.new (w := w) p n h rfl).below hb1)
            have p0 := HP1.out.c0
            have p1 := HP1.out.c1
            have p2 := HP1.out.c2
            go_wp2_with fail
            refine ret_below (HGD.out _ hbw1) ?_
            intro w2 hb2
            have hbw2 := below_trans hbw1 hb2
            have HP2 := Lib.hid (HP1.out.below hb2)
            clear p0 p1 p2
            have p0 := HP2.out.c0
            have p1 := HP2.out.c1
            have p2 := HP2.out.c2
            have u1 := (hbw2.cell (p := ⟨b, off + 1, none⟩) hb0).trans q1
            go_wp2_with fail
            refine ret_pure (HES.out _ hbw2) ?_
            go_wp2_with fail
            go_ret2
            exact ShErr.nil _ hbw2
          have he := xpE_ok (p := p) (n := n) (h := h) HGT.out HLN.out hin (fun e => e.elim (fun e => by have := HZ.out; omega) hbig)
          rw [xpL_ok he, he]
          obtain ⟨hSN, hg⟩ := gd_nat (gdB_of HGT.out)
          obtain ⟨e1, e2⟩ := inside_nat hin
          have hs1 : (sec.map Int.toNat).length = sec.length := by simp
          have hSNl : (sec.map Int.toNat).length ≤ 2048 := by omega
          have hAn : NatsAt w B (sec.map Int.toNat) := IntsAt.nats (by rw [e1]; exact HI.out)
          have HAN := Lib.hid hAn
          have HG := Lib.hid hg
          have HSP := Lib.hid e2
          have HS1 := Lib.hid hs1
          have hNl : (natL S).length = S.length := by have h1 := natL_len S; have h2 := HZ.out; omega
          have HNL := Lib.hid hNl
          have HVL := Lib.hid (show ∀ k, k < (natL S).length → (vN (natL S) k).length = sec.length from fun k hk => by
            have hk' : k < S.length := by rw [natL_len] at hk; exact hk
            have h1 := hg.len k hk
            have h2 : (vN (natL S) 0).length = (vS S 0).length := by
              conv => rhs; rw [hSN]
              rw [vS_shL, len_ofN]
            rw [h1, h2]
            exact HLN.out.resolve_left (by omega))
          have HNS : Hid (ShP P0 w (some ⟨b, off, none⟩) ca (shL (natL S))) := by rw [← hSN]; exact HS.out
          have hf0 : ¬ ((n : Int) ≤ ((S.length : Nat) : Int)) := by omega
          have hf1 : ¬ ((2048 : Int) < (sec.length : Int)) := by omega
          have hnl2 : S.length + 1 ≤ n := by omega
          have hhl : (hsN (natL S)).length = S.length := by rw [hsN_len]; exact hNl
          have HHR := Lib.hid (show ∀ x ∈ hsN (natL S), x ≤ 4294967296 from fun x hx => by have := hs_rng hg x hx; omega)
          have HXLT := Lib.hid (show ∀ x ∈ hsN (natL S), x < p from fun x hx => by have := hs_rng hg x hx; omega)
          have HPO := Lib.hid (fun (i : Nat) (hi : i < sec.length) (W : World) (hb : Below w.heap.size w W) => points_any (some ⟨b, off, none⟩) ca (natL S) i W (HNS.out.below hb) (by rw [HNL.out]; omega) (fun k hk => by rw [HVL.out k hk]; exact hi) (by omega))
          rw [hNl] at HPO
          have HHL := Lib.hid hhl
          have hcl : ∀ i, (colN (natL S) i).length = S.length := fun i => by rw [colN_len]; exact hNl
          have HCL := Lib.hid hcl
          have HHN := Lib.hid (fun k (hk : k < (natL S).length) => hsN_nth hk)
          have hmk : h ≤ 1000 := by omega
          have HCP := Lib.hid (fun e => exY_lt (K := natL S) (sec := sec.map Int.toNat) (c := n - 1 - (natL S).length) (e := e) (p := p) (by omega) (fun k hk => (hg.rng k hk).2.2) e2)
          have HDX : Hid (∀ j e x, j < p → (natL S).length + 1 + (fillN (hsN (natL S)) j).length = n → itE (exX (hsN (natL S)) j) (exY (natL S) (sec.map Int.toNat) (fillN (hsN (natL S)) j).length e) = 0 ∧ itV p (exX (hsN (natL S)) j) (exY (natL S) (sec.map Int.toNat) (fillN (hsN (natL S)) j).length e) x = evN p (exF p (hsN (natL S) ++ [0] ++ fillM (hsN (natL S)) (n - 1 - (natL S).length)) (exY (natL S) (sec.map Int.toNat) (n - 1 - (natL S).length)) e) x) := Lib.hid (fun j e x hj hf => by
            have h1 : (fillN (hsN (natL S)) j).length = n - 1 - (natL S).length := by omega
            have h2 := expl_it HPN.out hg e2 hj e x
            rw [fillM_of h1, ← h1]
            exact h2)
          clear he hin hbig hSN hg e1 e2 hs1 hAn hNl hhl hcl HS HI HZ HLN HGT
          generalize sec.map Int.toNat = SN at *
          generalize natL S = N at *
          have HXP : Hid (∀ j, j < p → ∀ y ∈ exX (hsN N) j, y < p) := Lib.hid (fun j hj => exX_lt HXLT.out hj)
          have HYY : Hid (∀ e c, exY N SN c e = yyL (colN N e) (nthN SN e) c) := Lib.hid (fun e c => rfl)
          obtain ⟨cF, hcF⟩ : ∃ cF, cF = n - 1 - N.length := ⟨_, rfl⟩
          have hxm : xpM p n h N SN = exT p h SN.length (exF p (hsN N ++ [0] ++ fillM (hsN N) cF) (exY N SN cF)) := by rw [hcF]; rfl
          have HXM := Lib.hid hxm
          rw [← hcF] at HCP HDX
          have hcF1 : cF + (S.length + 1) = n := by rw [HNL.out] at hcF; omega
          clear hxm hcF
          generalize exF p (hsN N ++ [0] ++ fillM (hsN N) cF) (exY N SN cF) = FF at *
          go_enter Tryd.func41, Tryd.ntmps41
          go_wp2_with fail
          refine ret_below HVAL.out ?_
          intro w1 hb1
          have hbw1 := below_trans (below_alloc _ _) hb1
          have HP1 := Lib.hid ((PlanCell.new (w := w) p n h rfl).below hb1)
          have p0 := HP1.out.c0
          have p1 := HP1.out.c1
          have p2 := HP1.out.c2
          go_wp2_with fail
          refine ret_below (HGD.out _ hbw1) ?_
          intro w2 hb2
          have hbw2 := below_trans hbw1 hb2
          have HP2 := Lib.hid (HP1.out.below hb2)
          clear p0 p1 p2
          have p0 := HP2.out.c0
          have p1 := HP2.out.c1
          have p2 := HP2.out.c2
          have u1 := (hbw2.cell (p := ⟨b, off + 1, none⟩) hb0).trans q1
          go_wp2_with fail
          refine ret_pure (HES.out _ hbw2) ?_
          have hmm := @run_makeMap Tryd.prog
          go_wp2_with fail
          refine gen_world fun w4 hw4 => ?_
          have hbw4 : Below w2.heap.size w2 w4 := by rw [hw4]; exact below_alloc _ _
          have HM4 : Hid (w4.ownsMap Tryd.prog 3 (plainElem Tryd.prog 4) w2.heap.size 0 (Sn (H := Unit) (hsN N) 0)) := Lib.hid (by rw [hw4, Sn_zero]; exact World.ownsMap_made _ _ _ _)
          clear hw4 p0 p1 p2
          have hwb : w.heap.size < w2.heap.size := HP2.out.lt
          go_loopw [65] (fun i wr => ∃ k : Nat, k ≤ S.length ∧ i = .int .i64 k ∧ wr.ownsMap Tryd.prog 3 (plainElem Tryd.prog 4) w2.heap.size k (Sn (H := Unit) (hsN N) k) ∧ Below w2.heap.size w2 wr) (fun i _ => S.length - (intOf i).toNat)
          case atStart => exact ⟨0, Nat.zero_le _, rfl, HM4.out, hbw4⟩
          case round =>
            obtain ⟨k, hk, rfl, hown, hbr⟩ := hrel
            have HM := Lib.hid hown
            clear hown
            have hbwr := below_trans hbw2 hbr
            have hszr := hbr.size
            by_cases hlt : k < S.length
            · obtain ⟨kb, ko, KB, kc, hkA, hkb, -, k0, k1, -, -⟩ := (HNS.out.below hbwr).nat (show k < N.length by rw [HNL.out]; exact hlt)
              have hkN := HHN.out k (by rw [HNL.out]; exact hlt)
              have hkr := HHR.out _ (nthN_mem (show k < (hsN N).length by rw [HHL.out]; exact hlt))
              have HSN := Lib.hid (Sn_succ (H := Unit) (hsN N) k (by rw [HHL.out]; exact hlt))
              rw [hkN] at HSN hkr
              generalize hN N k = xh at *
              have hkey : keyOf Tryd.prog 3 (.int .i64 (xh : Nat)) = some (keyL xh) := Maps.keyOf_int_mk Tryd.underlying3 (wf_i64 (by omega) (by omega))
              have HKY := Lib.hid hkey
              have hml : k < 1048576 := by omega
              clear hkN hkey
              obtain ⟨rfl, rfl⟩ : b = kb ∧ off = ko := by injection hkA with e; injection e with e3 e4; exact ⟨e3, e4⟩
              go_wp2_with (first
                | (at_mapUpdate; refine wpList_mapUpdate_own _ rfl _ _ _ 92 rfl 3 4 lawI Tryd.underlying92 (plainElem (H := Unit) Tryd.prog 4) w2.heap.size k _ rfl (HM.out.alloc _) (by unfold maxLen; omega) _ _ _ rfl rfl HKY.out _ [] (plainElem_bool Tryd.underlying4 true) ?_; intro w5 hown5 hgrow5)
                | go_in)
              have HN5 := Lib.hid (And.intro hown5 ((hbr.trans ((below_alloc wr _).mono hszr)).grown hgrow5 (Nat.le_trans hszr (below_alloc wr _).size) (fun j hj => by cases hj; exact Nat.le_refl _)))
              clear hown5 hgrow5
              go_roundw
              case rel => exact ⟨k + 1, by omega, by go_num, by rw [HSN.out]; exact HN5.out.1, HN5.out.2⟩
              case measure => simp [intOf]; omega
            · obtain rfl : k = S.length := by omega
              obtain ⟨w4', hw4'⟩ : ∃ w4' : World, w4' = wr := ⟨_, rfl⟩
              rw [← hw4'] at HM hbr hbwr hszr
              rw [← hw4']
              clear hw4' HM4 hbw4
              have HP4 := Lib.hid (HP2.out.below hbr)
              have p2 := HP4.out.c2
              have hml := HM.out.lt
              go_wp2_with fail
              refine gen_world fun w5 hw5 => ?_
              have hb5 : Below w4'.heap.size w4' w5 := by rw [hw5]; exact below_alloc _ _
              have HO5 : Hid (HvOwn w5 w4'.heap.size (.slice (some ⟨w4'.heap.size, 0, none⟩) h h) (hhL h 0)) := Lib.hid (by rw [hw5, ← hhL_zero]; exact own_made _ _ (by omega))
              clear hw5 p2
              obtain ⟨g, hg⟩ : ∃ g, g = w4'.heap.size := ⟨_, rfl⟩
              rw [← hg] at HO5 hb5 hml
              rw [← hg]
              have hgw : w.heap.size < g := by omega
              have hgE1 : g ≤ w4'.heap.size := by omega
              have hgE2 : w4'.heap.size ≤ g := by omega
              clear hg
              have HMg := Lib.hid hml
              go_wp2_with fail
              go_loopw [78] (fun i wr => ∃ k : Nat, k ≤ h ∧ i = .int .i64 k ∧ HvOwn wr g (.slice (some ⟨g, 0, none⟩) h h) (hhL h k) ∧ Below g w4' wr) (fun i _ => h - (intOf i).toNat)
              case atStart => exact ⟨0, Nat.zero_le _, rfl, HO5.out, hb5⟩
              case round =>
                obtain ⟨t, ht, rfl, hown, hbt⟩ := hrel
                have HO := Lib.hid hown
                clear hown
                by_cases htl : t < h
                · obtain ⟨g2, c2, hv, hg2, -, -, -, hcell, hfr⟩ := HO.out.form (by rw [hhL_len]; omega)
                  injection hv with ev1 ev2 ev3
                  injection ev1 with ev1
                  injection ev1 with ev1
                  subst ev1
                  obtain ⟨x0, x1⟩ := hcell t (by rw [hhL_len]; exact htl)
                  have xf := hfr (t * 2)
                  have i1 : (0 : Int) ≤ (t : Int) := by omega
                  have i2 : (t : Int) < (h : Int) := by omega
                  clear hcell hfr ev2 ev3
                  go_wp2_with fail
                  have hst := HO.out
                  rw [show (Value.slice (some ⟨g, 0, none⟩) h h) = .slice (some ⟨g, 0, none⟩) (hhL h t).length h by rw [hhL_len]] at hst
                  have hst2 := hst.set0 t (by rw [hhL_len]; exact htl) ((t : Int) + 1)
                  rw [hhL_len, hhL_succ htl] at hst2
                  have HST := Lib.hid hst2
                  clear hst hst2 x0 x1 xf
                  go_roundw
                  case rel => exact ⟨t + 1, by omega, by go_num, HST.out, hbt.setCell (p := ⟨g, t * 2, none⟩) (Nat.le_refl _) _⟩
                  case measure => simp [intOf]; omega
                · obtain rfl : t = h := by omega
                  have HR0 := Lib.hid (rows_hh HO.out)
                  obtain ⟨w6, hw6⟩ : ∃ w6 : World, w6 = wr := ⟨_, rfl⟩
                  rw [← hw6] at HR0 hbt
                  rw [← hw6]
                  clear hw6 HO HO5 hb5
                  have HR1 : Hid (Rows2 w6 g (.slice (some ⟨g, 0, none⟩) t t) (hhL t t) (exT p t 0 FF)) := by rw [exT_zero]; exact HR0.out
                  have hz6 := hbt.size
                  go_wp2_with fail
                  go_loopw [90] (fun i wr => ∃ (m : Nat) (H : List HV), m ≤ sec.length ∧ i = .int .i64 m ∧ Rows2 wr g (.slice (some ⟨g, 0, none⟩) t t) H (exT p t m FF) ∧ Below g w4' wr) (fun i _ => sec.length - (intOf i).toNat)
                  case atStart => exact ⟨0, _, Nat.zero_le _, rfl, HR1.out, hbt⟩
                  case round =>
                    obtain ⟨m, H, hm, rfl, hR, hbm⟩ := hrel
                    have HR := Lib.hid hR
                    clear hR HR0 HR1 hbt hz6
                    have hgm : g ≤ wr.heap.size := by have := (World.ownsRow.lt HR.out.out g rfl).2; omega
                    by_cases hml2 : m < sec.length
                    · obtain ⟨bA, oA, rfl, hbA, hcA⟩ := HAN.out m (by rw [HS1.out]; exact hml2)
                      have hbwm : Below w.heap.size w wr := hbwr.trans (hbm.mono (by omega))
                      have hcA2 := (hbwm.cell (p := ⟨bA, oA + m, none⟩) hbA).trans hcA
                      have hbAr : bA < wr.heap.size := Nat.lt_of_lt_of_le hbA hbwm.size
                      have HPm : Hid (PlanCell wr w.heap.size p n t) := Lib.hid (HP4.out.keep (hbm.block _ (by omega)))
                      have HMm := Lib.hid (map_keep HM.out (hbm.block _ HMg.out))
                      have HDm := Lib.hid (fun j x => HDX.out j m x)
                      have HYm := Lib.hid (fun c => HYY.out m c)
                      have HPm0 := Lib.hid (HPO.out m hml2)
                      have HCm := Lib.hid (HCL.out m)
                      have HCPm := Lib.hid (HCP.out m)
                      have HSTm := Lib.hid (exT_succ p t m FF)
                      have HTL := Lib.hid (exT_len p t m FF)
                      have HTA := Lib.hid (fun j (hj : j < t) => exT_at (p := p) (m := m) (F := FF) hj)
                      rw [HYm.out cF] at HCPm
                      generalize FF m = f at HDm HSTm
                      generalize colN N m = col at *
                      generalize nthN SN m = x at *
                      generalize exT p t m FF = T at *
                      obtain ⟨wq, hwq⟩ : ∃ wq : World, wq = wr := ⟨_, rfl⟩
                      rw [← hwq] at HR hbm hgm hbwm hcA2 hbAr HPm HMm
                      rw [← hwq]
                      clear hwq hcA
                      go_wp2_with fail
                      refine (HPm0.out wq hbwm).mono ?_
                      rintro e w7 ⟨XA, xc, YA, yc, rfl, hT7⟩
                      have HT7 := Lib.hid hT7
                      have hcl1 : col.length ≤ 4194304 := by rw [HCm.out]; omega
                      have hsl1 : (hsN N).length ≤ 4194304 := by rw [HHL.out]; omega
                      have HLX := Lib.hid (exX_zero' (hsN N))
                      have HLY := Lib.hid (yyL_zero col x)
                      clear hT7 hcA2
                      go_wp2_with (first
                        | (at_builtin; refine app_two rfl (.tmp 101) (.tmp 102) rfl (w0 := wq) (base := wq.heap.size) (lo := wq.heap.size) (X := hsN N) (Y := col) (y := 0) rfl rfl (HT7.out.alloc _) (lit1_at _ _ 0 rfl) hsl1 ?_; intro v8 w8 hT8; rw [HLX.out] at hT8; obtain ⟨X8, x8c, Y8, y8c, rfl, -⟩ := hT8.forms; have HT8 := Lib.hid hT8; clear hT8)
                        | (at_builtin; refine app_two rfl (.tmp 104) (.tmp 106) rfl (w0 := wq) (base := wq.heap.size) (lo := wq.heap.size) (X := col) (Y := exX (hsN N) 0) (y := x) rfl rfl (HT8.out.swap.alloc _) (lit1_at _ _ x rfl) hcl1 ?_; intro v9 w9 hT9; rw [HLY.out] at hT9; obtain ⟨Y9, y9c, X9, x9c, rfl, -⟩ := hT9.forms; have HT9 := Lib.hid hT9.swap; clear hT9))
                      go_loopw [15, 16, 17] (fun vx vy i wr => ∃ j : Nat, i = .int .i64 ((j : Int) + 1) ∧ (exX (hsN N) j).length ≤ n ∧ Two wq wr wq.heap.size wq.heap.size vx (exX (hsN N) j) vy (yyL col x (fillN (hsN N) j).length)) (fun _ _ i _ => n - (intOf i).toNat)
                      case atStart =>
                        refine ⟨0, rfl, ?_, HT9.out⟩
                        have h1 := exX_len (hsN N) 0
                        have h2 : (fillN (hsN N) 0).length = 0 := rfl
                        rw [HHL.out, h2] at h1; omega
                      case round =>
                        obtain ⟨j, rfl, hjl, hTj⟩ := hrel
                        have hmany := exX_many (hsN N) j
                        have hbq : Below wq.heap.size wq wr := hTj.below
                        obtain ⟨XA2, xc2, YA2, yc2, rfl, rfl⟩ := hTj.forms
                        have HT := Lib.hid hTj
                        have HPr := Lib.hid (HPm.out.below hbq)
                        have q0 := HPr.out.c0
                        have q1 := HPr.out.c1
                        clear hTj
                        have hel := exX_len (hsN N) j
                        rw [HHL.out] at hel
                        by_cases hlt : (exX (hsN N) j).length < n
                        · have HMr := Lib.hid (map_keep HMm.out (hbq.block _ (by have := HMg.out; omega)))
                          have hyl := yyL_len col x (fillN (hsN N) j).length
                          rw [HCm.out] at hyl
                          have hyl1 : (yyL col x (fillN (hsN N) j).length).length ≤ 4194304 := by omega
                          have hat := Sn_at (hsN N) (j + 1) (hsN N).length (Nat.le_refl _)
                          rw [List.take_length, HHL.out] at hat
                          by_cases hmem : (j + 1) ∈ hsN N
                          · rw [decide_eq_true hmem] at hat
                            have hlk := look_bool HMr.out (x := j + 1) (by omega) hat
                            have HXE := Lib.hid (exX_held hmem)
                            have HYE := Lib.hid (fill_len_held hmem)
                            clear hat hmem hyl hel
                            have hlk2 := hlk
                            push_cast at hlk2
                            generalize hXX : exX (hsN N) j = X at *
                            generalize hYY : yyL col x (fillN (hsN N) j).length = Y at *
                            have HYY2 := Lib.hid hYY
                            clear hYY
                            go_wp2_with fail
                            go_roundw
                            case rel => exact ⟨j + 1, by go_num, by rw [HXE.out]; exact hjl, by rw [HXE.out, HYE.out, HYY2.out]; exact HT.out⟩
                            case measure => simp [intOf]; omega
                          · rw [decide_eq_false hmem] at hat
                            have hlk := look_bool HMr.out (x := j + 1) (by omega) hat
                            have HXE := Lib.hid (exX_new hmem)
                            have HYE := Lib.hid (fill_len_new hmem)
                            have HYS := Lib.hid (yyL_succ col x (fillN (hsN N) j).length)
                            clear hat hmem hyl hel
                            have hlk2 := hlk
                            push_cast at hlk2
                            have hxl1 : (exX (hsN N) j).length ≤ 4194304 := by omega
                            generalize hXX : exX (hsN N) j = X at *
                            generalize hYY : yyL col x (fillN (hsN N) j).length = Y at *
                            clear hYY
                            go_wp2_with (first
                              | (at_builtin; refine app_two rfl (.tmp 119) (.tmp 121) rfl (w0 := wq) (base := wq.heap.size) (lo := wq.heap.size) (X := X) (Y := Y) (y := j + 1) rfl rfl (HT.out.alloc _) (lit1_at _ _ (j + 1) rfl) hxl1 ?_; intro v10 w10 hT10; obtain ⟨X10, x10c, Y10, y10c, rfl, -⟩ := hT10.forms; have HT10 := Lib.hid hT10; clear hT10)
                              | (at_builtin; refine app_two rfl (.tmp 123) (.tmp 124) rfl (w0 := wq) (base := wq.heap.size) (lo := wq.heap.size) (X := Y) (Y := X ++ [j + 1]) (y := 0) rfl rfl (HT10.out.swap.alloc _) (lit1_at _ _ 0 rfl) hyl1 ?_; intro v11 w11 hT11; obtain ⟨Y11, y11c, X11, x11c, rfl, -⟩ := hT11.forms; have HT11 := Lib.hid hT11.swap; clear hT11))
                            go_roundw
                            case rel => exact ⟨j + 1, by go_num, by rw [HXE.out, List.length_append]; simp; omega, by rw [HXE.out, HYE.out, HYS.out]; have h1 := HT11.out; simp only [List.length_append, List.length_cons, List.length_nil] at h1; exact h1⟩
                            case measure => simp [intOf]; omega
                        · have hxn : (exX (hsN N) j).length = n := by omega
                          have hjp : j < p := by omega
                          have hfc : (fillN (hsN N) j).length = cF := by omega
                          rw [hfc] at HT
                          rw [hfc]
                          have hfn : N.length + 1 + (fillN (hsN N) j).length = n := by rw [HNL.out, hfc]; omega
                          have HDj := Lib.hid (fun y => HDm.out j y hjp hfn)
                          rw [hfc, HYm.out cF] at HDj
                          have HXPj := Lib.hid (HXP.out j hjp)
                          have hyl := yyL_len col x cF
                          rw [HCm.out] at hyl
                          have hTl := HT.out.lists
                          have hTg := HT.out.ge
                          have HRr := Lib.hid (HR.out.below hbq)
                          have hbr2 : Below g wq wr := hbq.mono hgm
                          have HFX := Lib.hid (far_new (lo := 0) HR.out (F := XA2) (fun b off e => (hTg.1 b off e).1))
                          have HFY := Lib.hid (far_new (lo := 0) HR.out (F := YA2) (fun b off e => (hTg.2 b off e).1))
                          have HXL := Lib.hid (fun b off e => (hTg.1 b off e).2)
                          have HYL := Lib.hid (fun b off e => (hTg.2 b off e).2)
                          have HNX := Lib.hid hTl.1
                          have HOX := Lib.hid hTl.2.1
                          have HNY := Lib.hid hTl.2.2.1
                          have HOY := Lib.hid hTl.2.2.2
                          rw [HTL.out] at HFX HFY
                          clear hTl hTg hfn hel hmany
                          generalize hXX : exX (hsN N) j = X at *
                          generalize hYY : yyL col x cF = Y at *
                          have HXN := Lib.hid hxn
                          have HYN := Lib.hid hyl
                          clear hXX hYY hyl hxn hfc
                          obtain ⟨ws, hws⟩ : ∃ ws : World, ws = wr := ⟨_, rfl⟩
                          rw [← hws] at HRr HNX HNY HXL HYL HPr hbr2
                          rw [← hws]
                          clear hws q0 q1
                          have q1 := HPr.out.c1
                          have HRS : Hid (Rows2 ws g (.slice (some ⟨g, 0, none⟩) t t) H (stepT p f T 0)) := by rw [stepT_zero]; exact HRr.out
                          have hgs : g ≤ ws.heap.size := Nat.le_trans hgm hbr2.size
                          go_wp2_with fail
                          go_loopw [128] (fun i wr => ∃ (s : Nat) (H : List HV), s ≤ t ∧ i = .int .i64 s ∧ Rows2 wr g (.slice (some ⟨g, 0, none⟩) t t) H (stepT p f T s) ∧ FarF XA2 (.slice (some ⟨g, 0, none⟩) t t) H t ∧ FarF YA2 (.slice (some ⟨g, 0, none⟩) t t) H t ∧ NatsAt wr XA2 X ∧ NatsAt wr YA2 Y ∧ Below g ws wr) (fun i _ => t - (intOf i).toNat)
                          case atStart => exact ⟨0, H, Nat.zero_le _, rfl, HRS.out, HFX.out, HFY.out, HNX.out, HNY.out, Below.refl _ _⟩
                          case round =>
                            obtain ⟨s, H2, hs, rfl, hR, hFX, hFY, hNX, hNY, hbs⟩ := hrel
                            have hlw := hbs.size
                            have HSZ := Lib.hid hbs.size
                            have HPs : Hid (PlanCell wr w.heap.size p n t) := Lib.hid (HPr.out.keep (hbs.block _ (by omega)))
                            by_cases hst : s < t
                            · have hsS : s < (stepT p f T s).length := by rw [stepT_len, HTL.out]; exact hst
                              have hHl : H2.length = t := by rw [hR.len, stepT_len, HTL.out]
                              obtain ⟨g2, c2, RB, rc, hv, hv2, hg2, hbg, g1, g2c, gf⟩ := hR.slot hsS
                              injection hv with ev1 ev2 ev3
                              injection ev1 with ev1
                              injection ev1 with ev1
                              subst ev1
                              have HROW := Lib.hid (hR.row s hsS)
                              have HSUC := Lib.hid (stepT_succ (p := p) (f := f) (T := T) (k := s) (by rw [HTL.out]; exact hst))
                              obtain ⟨e1, e2⟩ := stepT_at (p := p) (f := f) (T := T) (k := s) (j := s) (by rw [HTL.out]; exact hst)
                              rw [if_neg (by omega)] at e2
                              obtain ⟨e3, e4⟩ := HTA.out s hst
                              have hvk : (vN T s).length = m := by rw [e4]; simp
                              rw [hv2] at HROW
                              have HV2 := Lib.hid hv2
                              have gf1 := gf (s * 2 + 1)
                              have hR' : Rows2 wr g (.slice (some ⟨g, 0, none⟩) H2.length t) H2 (stepT p f T s) := by rw [hHl]; exact hR
                              have HR' := Lib.hid hR'
                              rw [e2] at HROW g2c
                              rw [e1, e2, e3] at HSUC
                              have HE := Lib.hid (And.intro e1 e2)
                              have HE3 := Lib.hid e3
                              obtain ⟨d1, d2⟩ := HDj.out (s + 1)
                              have HIT := Lib.hid (fun (W : World) (h1 : NatsAt W XA2 X) (h2 : NatsAt W YA2 Y) => refInterpolate_any p XA2 YA2 X Y xc2 yc2 (s + 1) W HPN.out.pr (by omega) h1 HOX.out h2 HXPj.out HCPm.out (by rw [HXN.out]; omega) (by rw [HYN.out]; omega) (by omega))
                              rw [d1, d2] at HIT
                              generalize hL : vN T s = L at *
                              have HLL := Lib.hid hL
                              generalize evN p f (s + 1) = y at *
                              push_cast at HIT
                              have HGB := Lib.hid (fun (w4 W w5 : World) (h1 : Below wr.heap.size wr w4) (h2 : Below w4.heap.size w4 W) (h3 : W.grownBy w5 (Value.slice RB L.length rc).ownBlock) => grown_blk (g := g) hg2 h1 h2 h3 (fun e => HR'.out.no s hsS g (by rw [HV2.out, HE.out.2]; exact e.symm) rfl))
                              have HFX2 := Lib.hid hFX
                              have HFY2 := Lib.hid hFY
                              have HNX2 := Lib.hid hNX
                              have HNY2 := Lib.hid hNY
                              have q0 := HPs.out.c0
                              have i1 : (0 : Int) ≤ (s : Int) := by omega
                              have i2 : (s : Int) < (t : Int) := by omega
                              have hln : L.length ≤ 2048 := by omega
                              have HHL2 := Lib.hid hHl
                              clear hvk hHl hR hR' hFX hFY hNX hNY hL e1 e2 e3 e4 d1 d2 hv2 gf ev2 ev3
                              go_wp2_with fail
                              refine ret_below (HIT.out _ HNX2.out HNY2.out) ?_
                              intro w12 hb12
                              have m2 := (hb12.cell (p := ⟨g, s * 2 + 1, none⟩) hg2).trans g2c
                              have lg12 : g < w12.heap.size := Nat.lt_of_lt_of_le hg2 hb12.size
                              have hb12' : g ≤ w12.heap.size := Nat.le_of_lt lg12
                              have HRW := Lib.hid (own_below HROW.out hb12)
                              go_wp2_with (at_builtin; refine Hid.out ?_)
                              refine Lib.hid ?_
                              refine app_nats_at rfl (.tmp 147) (.tmp 149) rfl (base := g) (S := L) (T := [y]) rfl (HRW.out.alloc _) rfl ((lit1_at _ _ y rfl).nats.news rfl) (by simp; omega) (by simp; omega) ?_
                              intro v13 w13 hown13 hg13 hbW13 hat13
                              obtain ⟨A13, c13, rfl, -, -, -⟩ := own_sl hown13 rfl
                              have hl13 : (L ++ [y]).length = L.length + 1 := by simp
                              rw [hl13] at hown13 hat13
                              rw [hl13]
                              obtain ⟨g13, rfl, -, -⟩ := own_one hown13 (Nat.succ_pos _)
                              have hblk := HGB.out _ _ _ hb12 (below_alloc w12 _) hg13
                              have n2 : w13.cell? ⟨g, s * 2 + 1, none⟩ = some (.slice RB L.length rc) := (World.cell?_of_block (w := wr) hblk).trans g2c
                              have n3 : w13.frozen? ⟨g, s * 2 + 1, none⟩ = false := (frozen_of_block hblk).trans gf1
                              have hXlt : ∀ bF off, XA2 = some ⟨bF, off, none⟩ → bF < wr.heap.size := fun bF off e => Nat.lt_of_lt_of_le (HXL.out bF off e) HSZ.out
                              have hYlt : ∀ bF off, YA2 = some ⟨bF, off, none⟩ → bF < wr.heap.size := fun bF off e => Nat.lt_of_lt_of_le (HYL.out bF off e) HSZ.out
                              have hb45 : Below g w12 w13 := ((below_alloc w12 _).mono hb12').trans hbW13
                              have hfx : FarF XA2 (.slice (some ⟨g, 0, none⟩) H2.length t) H2 (stepT p f T s).length := by rw [stepT_len, HTL.out, HHL2.out]; exact HFX2.out
                              have hfy : FarF YA2 (.slice (some ⟨g, 0, none⟩) H2.length t) H2 (stepT p f T s).length := by rw [stepT_len, HTL.out, HHL2.out]; exact HFY2.out
                              have hat14 : (hvAt H2 s).2.ownBlock = some g13 ∨ g13 = (w12.alloc (.cells #[.int .i64 (y : Int)] 3)).heap.size := by
                                rw [HV2.out, HE.out.2]
                                rcases hat13 with e | e
                                · exact .inl (e.symm.trans rfl).symm.symm
                                · exact .inr (Option.some.inj e)
                              have hown14 : w13.ownsRow g 3 1 (.slice (some ⟨g13, 0, none⟩) ((vN (stepT p f T s) s).length + 1) c13) ((vN (stepT p f T s) s).length + 1) (valsN (vN (stepT p f T s) s ++ [y])) := by rw [HE.out.2]; exact hown13
                              have hg14 : (w12.alloc (.cells #[.int .i64 (y : Int)] 3)).grownBy w13 (hvAt H2 s).2.ownBlock := by rw [HV2.out, HE.out.2]; exact hg13
                              obtain ⟨-, n4, n5, n6, n7⟩ := deal_next (d := w.heap.size) (F := XA2) hgw (by omega) HR'.out hsS hfx HNX2.out hXlt hb12 (below_alloc w12 _) hown14 hg14 hat14 hb45
                              obtain ⟨-, -, n8, n9, -⟩ := deal_next (d := w.heap.size) (F := YA2) hgw (by omega) HR'.out hsS hfy HNY2.out hYlt hb12 (below_alloc w12 _) hown14 hg14 hat14 hb45
                              rw [HE.out.1, HE.out.2, HE3.out, ← HSUC.out, HHL2.out] at n4
                              rw [HE.out.2, stepT_len, HTL.out, HHL2.out] at n5 n8
                              rw [HE.out.2] at n6 n7 n9
                              have HN4 := Lib.hid n4
                              have HN5 := Lib.hid n5
                              have HN6 := Lib.hid n6
                              have HN7 := Lib.hid (hbs.trans n7)
                              have HN8 := Lib.hid n8
                              have HN9 := Lib.hid n9
                              clear n4 n5 n6 n7 n8 n9 hown13 hg13 hat13 hown14 hg14 hat14 hfx hfy hXlt hYlt hb45 hblk
                              go_wp2_with fail
                              go_roundw
                              case rel => exact ⟨s + 1, _, by omega, by go_num, HN4.out, HN5.out, HN8.out, HN6.out, HN9.out, HN7.out⟩
                              case measure => simp [intOf]; omega
                            · obtain rfl : s = t := by omega
                              have hfin : Rows2 wr g (.slice (some ⟨g, 0, none⟩) s s) H2 (stepT p f T T.length) := by rw [HTL.out]; exact hR
                              rw [HSTm.out] at hfin
                              have HFIN := Lib.hid (And.intro hfin (hbm.trans (hbr2.trans hbs)))
                              clear hfin hR hFX hFY hNX hNY
                              go_wp2_with fail
                              go_roundw
                              case rel => exact ⟨m + 1, _, by omega, by go_num, HFIN.out.1, HFIN.out.2⟩
                              case measure => simp [intOf]; omega
                    · obtain rfl : m = sec.length := by omega
                      obtain ⟨XR, cx, ev, hXR⟩ := HR.out.read
                      rw [exT_len] at ev
                      injection ev with ev1 ev2 ev3
                      subst ev1; subst ev3
                      have hX2 : ShP (fun b => w.heap.size ≤ b) wr (some ⟨g, 0, none⟩) t (shL (xpM p n t N SN)) := by rw [HXM.out, HS1.out]; exact hXR.mono (fun b _ hb => by omega)
                      have HX := Lib.hid hX2
                      have HBF := Lib.hid (hbwr.trans (hbm.mono (by omega)))
                      clear hXR hX2
                      go_wp2_with fail
                      go_ret2
                      exact ⟨_, t, by rw [shL_len, xpM_len]; rfl, HX.out, HBF.out⟩

      · have he := xpE_len (p := p) (n := n) (h := h) (sec := sec) (S := S) (fun e => e.elim (fun e => by omega) hsl)
        have t0 : (((vS S 0).length : Int) != (sec.length : Int)) = true := by simp; omega
        rw [xpL_no (by rw [he]; decide), he]
        clear hsl he
        go_enter Tryd.func41, Tryd.ntmps41
        go_wp2_with fail
        refine ret_below HVAL.out ?_
        intro w1 hb1
        have hbw1 := below_trans (below_alloc _ _) hb1
        have HP1 := Lib.hid ((PlanCell.new (w := w) p n h rfl).below hb1)
        have p0 := HP1.out.c0
        have p1 := HP1.out.c1
        have p2 := HP1.out.c2
        go_wp2_with fail
        refine ret_below (HGD.out _ hbw1) ?_
        intro w2 hb2
        have hbw2 := below_trans hbw1 hb2
        have HP2 := Lib.hid (HP1.out.below hb2)
        clear p0 p1 p2
        have p0 := HP2.out.c0
        have p1 := HP2.out.c1
        have p2 := HP2.out.c2
        have u1 := (hbw2.cell (p := ⟨b, off + 1, none⟩) hb0).trans q1
        go_wp2_with fail
        go_ret2
        exact ShErr.nil _ hbw2
end Go.Proofs.YtkjpnhhkebbmdaaDoor
namespace Go.Proofs.YtkjpnhhkebbmdaaDoor
open Go.RowKit

theorem xpL_len {p n h : Nat} {S : List Shr} {sec : List Int} : (xpL p n h S sec).length ≤ h := by
  unfold xpL
  split
  · rw [xpM_len]; exact Nat.le_refl _
  · exact Nat.zero_le _
theorem xpL_short {p n h : Nat} {S : List Shr} {sec : List Int} (hl : sec.length ≤ 1048576) : Short (shL (xpL p n h S sec)) := by
  refine short_shL fun k hk => ?_
  unfold xpL at hk ⊢
  split
  · rename_i e
    rw [if_pos e, xpM_len] at hk
    unfold xpM
    rw [(exN_at hk).2]; simpa using hl
  · rename_i e
    rw [if_neg e] at hk
    exact absurd hk (by simp)
theorem SsAt.four {P : Nat → Prop} {w : World} {g c1 c2 c3 c4 k1 k2 k3 k4 : Nat} {A1 A2 A3 A4 : Option Addr} {S1 S2 S3 S4 : List Shr} (hg : w.heap[g]? = some (.cells #[.slice A1 k1 c1, .slice A2 k2 c2, .slice A3 k3 c3, .slice A4 k4 c4] 37 (0, 0)))
    (e1 : k1 = S1.length) (e2 : k2 = S2.length) (e3 : k3 = S3.length) (e4 : k4 = S4.length)
    (h1 : ShP P w A1 c1 S1 ∧ S1.length ≤ 20 ∧ Wide 30 S1) (h2 : ShP P w A2 c2 S2 ∧ S2.length ≤ 20 ∧ Wide 30 S2) (h3 : ShP P w A3 c3 S3 ∧ S3.length ≤ 20 ∧ Wide 30 S3) (h4 : ShP P w A4 c4 S4 ∧ S4.length ≤ 20 ∧ Wide 30 S4) :
    SsAt P w g [⟨A1, c1, S1⟩, ⟨A2, c2, S2⟩, ⟨A3, c3, S3⟩, ⟨A4, c4, S4⟩] := by
  subst e1 e2 e3 e4
  exact ⟨hg, fun x hx => by simp at hx; rcases hx with rfl | rfl | rfl | rfl; exact h1; exact h2; exact h3; exact h4⟩
/-- What stands while it is tried. -/
structure XSt (w0 w : World) (D : Nat) (R : List Int) (px p n h : Nat) (g : Nat) (X : List SI) (A1 : Option Addr) (c1 : Nat) (L1 : List Int) (A2 : Option Addr) (c2 : Nat) (L2 : List Int) : Prop where
  env : Env w0 w D R
  pp : PlanCell w px p n h
  ss : SsAt (· ≠ D) w g X
  s1 : IntsP (· ≠ D) w A1 c1 L1
  s2 : IntsP (· ≠ D) w A2 c2 L2
theorem XSt.below {w0 w w' : World} {D : Nat} {R : List Int} {px p n h : Nat} {g : Nat} {X : List SI} {A1 : Option Addr} {c1 : Nat} {L1 : List Int} {A2 : Option Addr} {c2 : Nat} {L2 : List Int} (H : XSt w0 w D R px p n h g X A1 c1 L1 A2 c2 L2) (hb : Below w.heap.size w w') : XSt w0 w' D R px p n h g X A1 c1 L1 A2 c2 L2 :=
  ⟨H.env.mv hb, H.pp.below hb, H.ss.below hb, H.s1.keep (Kept.below hb), H.s2.keep (Kept.below hb)⟩
end Go.Proofs.YtkjpnhhkebbmdaaDoor
namespace Go.Proofs.YtkjpnhhkebbmdaaDoor
open Go.RowKit

attribute [local go_sem high] sliced_low
set_option maxRecDepth 100000 in
set_option maxHeartbeats 8000000 in
theorem shareExplains_walk (A0 : Option Addr) (L0 : List Int) (c0 : Nat) (RA : Option Addr) (RS : List Shr) (rc : Nat) (A2 : Option Addr) (L2 : List Int) (c2 : Nat) (w : World) (hB : Bases w) (hl0 : L0.length ≤ maxLen) (hI0 : IntsAt w A0 L0) (_ : ∀ n ∈ L0, -9223372036854775808 ≤ n ∧ n ≤ 9223372036854775807)
    (hrl : RS.length ≤ maxLen) (hRS : ShP (fun _ => True) w RA rc RS) (hok2 : IOK A2 c2 L2.length) (hI2 : IntsAt w A2 L2) (_ : ∀ n ∈ L2, -9223372036854775808 ≤ n ∧ n ≤ 9223372036854775807) :
    Calls Tryd.prog 8 #[.slice A0 L0.length c0, .slice RA RS.length rc, .slice A2 L2.length c2] w (RetB (.bool true) w) := by
  have HB := Lib.hid hB
  clear hB
  by_cases hlight : (L0.length : Int) ≤ 500
  · have hL := light_any A0 L0.length c0 w
    rw [decide_eq_true hlight] at hL
    have HLt := Lib.hid hL
    clear hL hlight
    have hsm := small_any RA rc RS w hRS hrl
    cases hsb : smB RS with
    | false =>
      rw [hsb] at hsm
      have HSM := Lib.hid hsm
      clear hsm hsb
      go_enter Tryd.func8, Tryd.ntmps8
      go_wp2_with fail
      refine ret_pure HLt.out ?_
      go_wp2_with fail
      refine ret_below HSM.out ?_
      intro w1 hb1
      go_wp2_with fail
      refine ret_below (awake_any _ (HB.out.keep hb1)) ?_
      intro w2 hb2
      go_wp2_with fail
      go_ret
      exact RetB.bool rfl (below_trans hb1 hb2)
    | true =>
      rw [hsb] at hsm
      have HSM := Lib.hid hsm
      obtain ⟨hr12, hrW⟩ := smB_of hsb
      have HRW := Lib.hid hrW
      have HRS := Lib.hid hRS
      clear hsm hsb hrW hRS hrl
      by_cases hl10 : (10 : Int) < (L2.length : Int)
      · have t10 : decide ((10 : Int) < (L2.length : Int)) = true := decide_eq_true hl10
        go_enter Tryd.func8, Tryd.ntmps8
        go_wp2_with fail
        refine ret_pure HLt.out ?_
        go_wp2_with fail
        refine ret_below HSM.out ?_
        intro w1 hb1
        go_wp2_with fail
        refine ret_below (awake_any _ (HB.out.keep hb1)) ?_
        intro w2 hb2
        go_wp2_with fail
        go_ret
        exact RetB.bool rfl (below_trans hb1 hb2)
      · have t10 : decide ((10 : Int) < (L2.length : Int)) = false := decide_eq_false hl10
        have hl2 : L2.length ≤ 10 := by omega
        have HI2 := Lib.hid hI2
        have HK2 := Lib.hid hok2
        clear hI2 hok2
        go_enter Tryd.func8, Tryd.ntmps8
        go_wp2_with fail
        refine ret_pure HLt.out ?_
        clear HLt
        go_wp2_with fail
        refine ret_below HSM.out ?_
        intro w0 hb0
        clear HSM
        go_wp2_with fail
        refine (roll_any A0 L0 c0 _ hl0 (hI0.below hb0)).mono ?_
        rintro e w1 ⟨D, rfl, hDs, hD, hb1⟩
        have hDw : w.heap.size ≤ D := Nat.le_trans hb0.size hDs
        have hE1 : Env w w1 D L0 := ⟨hD, hDw, below_trans hb0 hb1⟩
        have HR1 : Hid (ShP (· ≠ D) w1 RA rc RS) := Lib.hid ((HRS.out.mono (Q := (· ≠ D)) (fun b hb _ => by omega)).below hE1.below)
        have HS2 : Hid (IntsP (· ≠ D) w1 A2 c2 L2) := Lib.hid ⟨HI2.out.below hE1.below, HK2.out, fun b off e => by
          rcases Nat.eq_zero_or_pos L2.length with h0 | h0
          · exact .inl h0
          · obtain ⟨b2, off2, e2, hlt2, -⟩ := HI2.out 0 h0
            rw [e2] at e; injection e with e; injection e with e; exact .inr (by omega)⟩
        clear hI0 hD hb1 hb0 HRS HI2 HK2 hDs t10 hl10
        go_wp2_with fail
        refine (prime_any D L0 _ hE1.dice).mono ?_
        rintro e w2 ⟨p, rfl, hpp, hp5, -, hD2, hg2⟩
        have hE2 := hE1.next hD2 hg2
        have h2 := hpp.1
        have h1 : 1 ≤ p := by omega
        have hp2 : p ≤ 2147483648 := by omega
        have HPP := Lib.hid hpp
        replace HR1 := Lib.hid (HR1.out.mv hg2)
        replace HS2 := Lib.hid (HS2.out.keep (Kept.mv hg2))
        clear hg2 hD2 hE1 hpp
        go_wp2_with fail
        refine (plan_any D _ p _ hE2.dice h2 hp2).mono ?_
        rintro e w3 ⟨n, h, R3, rfl, ⟨hn1, hnh, hh7, hhp⟩, hD3, hg3⟩
        have hE3 := hE2.next hD3 hg3
        have HPN := Lib.hid (PlanN.mk' HPP.out (by omega) hn1 hnh hh7 hhp)
        replace HR1 := Lib.hid (HR1.out.mv hg3)
        replace HS2 := Lib.hid (HS2.out.keep (Kept.mv hg3))
        clear hD3 hg3 hE2
        go_wp2_with fail
        refine gen_calls fun w4 hw4 => ?_
        have hb4 : Below w3.heap.size w3 w4 := by rw [hw4]; exact below_alloc _ _
        have HP4 : Hid (PlanCell w4 w3.heap.size p n h) := Lib.hid (by rw [hw4]; exact PlanCell.new _ _ _ rfl)
        have hE4 : Env w w4 D R3 := hE3.mv hb4
        replace HR1 := Lib.hid (HR1.out.below hb4)
        replace HS2 := Lib.hid (HS2.out.keep (Kept.below hb4))
        have hxD : w3.heap.size ≠ D := by have := hE3.lt; omega
        clear hw4 hb4 hE3
        generalize w3.heap.size = px at *
        refine (dealt_any D R3 p n h 2 w4 hE4.dice HPN.out (by omega) (by omega)).mono ?_
        rintro e w5 ⟨SA, sac, sec, LA, lc, ran, R5, rfl, hdl, -, hLP, hD5, hg5⟩
        have hE5 := hE4.next hD5 hg5
        replace HP4 := Lib.hid (HP4.out.mv hg5 hxD)
        replace HR1 := Lib.hid (HR1.out.mv hg5)
        replace HS2 := Lib.hid (HS2.out.keep (Kept.mv hg5))
        have HLP := Lib.hid hLP
        have HMD := Lib.hid (deal_Made HPN.out hdl.sp hdl.rp)
        have hsl := hdl.hi
        have HNL : Hid ((dealN p n h sec ran).length = h) := Lib.hid (deal_len p n h sec ran)
        clear hdl hLP hD5 hg5 hE4
        generalize dealN p n h sec ran = N at *
        have HWN : Hid (Wide 2 (shL N)) := Lib.hid (HMD.out.wide hsl)
        have HV0 : Hid ((vN N 0).length = sec.length) := Lib.hid (HMD.out.vlen (by rw [HNL.out]; omega))
        go_wp2_with fail
        refine (turnZ D R5 LA lc h N w5 hE5.dice HLP.out (HWN.out.short (by omega)) (by rw [HNL.out]; omega) HNL.out.symm).mono ?_
        rintro e w6 ⟨TA, tc, M, R6, rfl, htp, htl, -, hTS, hD6, hg6⟩
        have HT : Hid (ShP (· ≠ D) w6 TA tc (shL M)) := Lib.hid hTS
        have HWM : Hid (Wide 2 (shL M)) := Lib.hid ((HMD.out.part htp).wide hsl)
        have hMh : M.length ≤ h := by rw [HNL.out] at htl; exact htl
        have hE6 := hE5.next hD6 hg6
        replace HP4 := Lib.hid (HP4.out.mv hg6 hxD)
        replace HR1 := Lib.hid (HR1.out.mv hg6)
        replace HS2 := Lib.hid (HS2.out.keep (Kept.mv hg6))
        replace HLP := Lib.hid (HLP.out.mv hg6)
        have HTC := Lib.hid (show M.length ≤ tc by have h := HT.out.cap; exact h)
        have HDS := Lib.hid (show D < w6.heap.size from hE6.lt)
        have HLC := Lib.hid (show N.length ≤ lc by have h := HLP.out.cap; exact h)
        clear htp htl hTS hD6 hg6 hE5
        obtain ⟨ml, hml⟩ : ∃ ml, ml = M.length := ⟨_, rfl⟩
        rw [← hml]
        have hml1 : ml ≤ M.length := by omega
        have hml2 : M.length ≤ ml := by omega
        have HML := Lib.hid hml
        clear hml
        obtain ⟨b2, off2, B2, c2', rfl, hb2, hb2D, u0, u1, -, -⟩ := HLP.out.nat (show 0 < N.length by rw [HNL.out]; omega)
        rw [Nat.zero_mul, Nat.add_zero, HV0.out] at u1
        have p0 := HP4.out.c0
        have p1 := HP4.out.c1
        have p2 := HP4.out.c2
        have hpl := HP4.out.lt
        have h00 : 0 < h := by omega
        have h01 : (0 : Int) < (h : Int) := by omega
        clear u0
        go_wp2_with fail
        go_region_held3 (fun w' => w'.cell? ⟨px, 0, none⟩ = some (.int .i64 (p : Int)) ∧ w'.cell? ⟨px, 1, none⟩ = some (.int .i64 (n : Int)) ∧ w'.cell? ⟨px, 2, none⟩ = some (.int .i64 (h : Int)) ∧ w'.cell? ⟨b2, off2 + 1, none⟩ = some (.slice B2 sec.length c2')) (first | go_keep)
          ((go_at_call 16; refine (elements_any D _ p sec.length _ (by exact hE6.dice) h1 hp2 (by omega)).mono ?_; intro e w7 he; obtain ⟨OA, oc, oth, R7, rfl, hol, hop, hok, hoi, hD7, hg7⟩ := elems_new2 he; have hg7' : w6.grownBy w7 (some D) := (by first | exact grown_undrew hg7 | exact hg7); have hE7 := hE6.next hD7 hg7'; have q0 := (HP4.out.mv hg7' hxD).c0; have q1 := (HP4.out.mv hg7' hxD).c1; have q2 := (HP4.out.mv hg7' hxD).c2; have q3 := (World.cell?_of_block (w := w6) (a := ⟨b2, off2 + 1, none⟩) (hg7'.block b2 hb2 (fun e => hb2D (Option.some.inj e)))).trans u1))
        have HOI : Hid (IntsP (· ≠ D) w7 OA oc (ofN oth)) := Lib.hid (hoi.mono (fun b _ hb' => Nat.ne_of_gt (Nat.lt_of_lt_of_le HDS.out hb')))
        have HOL := Lib.hid hol
        have ho2 : oth.length ≤ 2 := by omega
        replace HP4 := Lib.hid (HP4.out.mv hg7' hxD)
        replace HR1 := Lib.hid (HR1.out.mv hg7')
        replace HS2 := Lib.hid (HS2.out.keep (Kept.mv hg7'))
        replace HLP := Lib.hid (HLP.out.mv hg7')
        replace HT := Lib.hid (HT.out.mv hg7')
        clear he hol hop hok hoi hD7 hg7 hg7' hE6 q0 q1 q2 q3 p0 p1 p2 u1 hb2 hb2D
        obtain ⟨q, hq⟩ : ∃ q, q + 1 = n := ⟨n - 1, by omega⟩
        have ek : IntKind.i64.wrap ((n : Int) - 1) = (q : Int) := by rw [IntWalk.i64_in _ (by omega)]; omega
        have ek0 : (0 : Int) ≤ (q : Int) := by omega
        have ek2 : (q : Int) ≤ (lc : Int) := by have := HLC.out; rw [HNL.out] at this; omega
        have hqh : q ≤ h := by omega
        have p0 := HP4.out.c0
        have p1 := HP4.out.c1
        have p2 := HP4.out.c2
        have HQL : Hid ((N.take q).length = q) := Lib.hid (by rw [List.length_take, HNL.out]; omega)
        have HTQ : Hid (ShP (· ≠ D) w7 (some ⟨b2, off2, none⟩) lc (shL (N.take q))) := Lib.hid (by rw [← shL_take]; exact HLP.out.take q)
        have HWQ : Hid (Wide 2 (shL (N.take q))) := Lib.hid ((HMD.out.take q).wide hsl)
        rcases Decidable.em ((q : Int) < (ml : Int)) with hc | hc
        · have hc2 : q ≤ ml := by omega
          have hc3 : q < ml := by omega
          have hkm : q ≤ M.length := by omega
          have HK := Lib.hid (show (M.take q).length = q by rw [List.length_take]; omega)
          have HTK : Hid (ShP (· ≠ D) w7 TA tc (shL (M.take q))) := Lib.hid (by rw [← shL_take]; exact HT.out.take q)
          have HWK : Hid (Wide 2 (shL (M.take q))) := Lib.hid (fun k hk => by
            rw [← shL_take] at hk ⊢
            have hk' : k < (shL M).length := Nat.lt_of_lt_of_le hk (List.length_take_le' _ _)
            have hk2 : k < q := Nat.lt_of_lt_of_le hk (List.length_take_le _ _)
            rw [vS_take hk2]; exact HWM.out k hk')
          have ek1 : (q : Int) ≤ (tc : Int) := by have := HTC.out; omega
          have ek3 : (0 : Int) ≤ (q : Int) := by omega
          go_wp2_with fail
          go_region_held3 (fun w' => w'.cell? ⟨px, 0, none⟩ = some (.int .i64 (p : Int)) ∧ w'.cell? ⟨px, 1, none⟩ = some (.int .i64 (n : Int)) ∧ w'.cell? ⟨px, 2, none⟩ = some (.int .i64 (h : Int))) (first | go_keep)
            ((go_at_call 32; refine (oddN D 2 _ (some ⟨b2, off2, none⟩) lc q (N.take q) _ (by exact hE7.dice) (by first | exact HTQ.out | exact HTQ.out.below (below_drewT _)) HWQ.out (by omega) (by rw [HQL.out]; omega) HQL.out.symm).mono ?_; intro e w8 he; obtain ⟨QA, qc, S4, R8, rfl, hS4, hl4, hW4, hD8, hg8⟩ := he.open_; have hg8' : w7.grownBy w8 (some D) := (by first | exact grown_undrew hg8 | exact hg8); have hE8 := hE7.next hD8 hg8'; have q0 := (HP4.out.mv hg8' hxD).c0; have q1 := (HP4.out.mv hg8' hxD).c1; have q2 := (HP4.out.mv hg8' hxD).c2))
          all_goals
            rw [shL_len, HQL.out] at hl4
            have HS4 := Lib.hid hS4
            have HW4 := Lib.hid hW4
            replace HP4 := Lib.hid (HP4.out.mv hg8' hxD)
            replace HR1 := Lib.hid (HR1.out.mv hg8')
            replace HS2 := Lib.hid (HS2.out.keep (Kept.mv hg8'))
            replace HT := Lib.hid (HT.out.mv hg8')
            replace HTK := Lib.hid (HTK.out.mv hg8')
            replace HOI := Lib.hid (HOI.out.keep (Kept.mv hg8'))
            clear he hS4 hW4 hD8 hg8 hg8' hE7 q0 q1 q2 p0 p1 p2
            go_wp2_with fail
            refine gen_world fun w9 hw9 => ?_
            have hb9 : Below w8.heap.size w8 w9 := by rw [hw9]; (repeat (first | exact bl_refl _ | apply bl_drew | apply bl_alloc))
            have HX : ∃ X : List SI, X.length = 4 ∧ SsAt (· ≠ D) w9 w8.heap.size X := ⟨_, rfl, SsAt.four (by rw [hw9]; exact heap_alloc_new _ _) (by rw [shL_len]; exact HML.out) (by rw [shL_len, HK.out]) rfl rfl
              ⟨HT.out.below hb9, by rw [shL_len]; omega, HWM.out.mono (by omega)⟩ ⟨HTK.out.below hb9, by rw [shL_len, HK.out]; omega, HWK.out.mono (by omega)⟩ ⟨HR1.out.below hb9, by omega, HRW.out.mono (by omega)⟩ ⟨HS4.out.below hb9, by omega, HW4.out.mono (by omega)⟩⟩
            obtain ⟨X, hX4, hSS⟩ := HX
            have HST : Hid (XSt w w9 D R8 px p n h w8.heap.size X OA oc (ofN oth) A2 c2 L2) := Lib.hid ⟨hE8.mv hb9, HP4.out.below hb9, hSS, HOI.out.keep (Kept.below hb9), HS2.out.keep (Kept.below hb9)⟩
            clear hw9 hb9 hSS hE8 HP4 HR1 HS2 HT HTK HOI HS4 HW4 HWK HRW HTQ HWQ HLP
            generalize w8.heap.size = gl at *
            go_loopw [78] (fun i wr => ∃ k : Nat, k ≤ 4 ∧ i = .int .i64 k ∧ Below w9.heap.size w9 wr) (fun i _ => 4 - (intOf i).toNat)
            case atStart => exact ⟨0, Nat.zero_le _, rfl, Below.refl _ _⟩
            case round =>
              obtain ⟨k, hk, rfl, hbk⟩ := hrel
              have HSTk := Lib.hid (HST.out.below hbk)
              by_cases hkl : k < 4
              · obtain ⟨XA, xc, XS, y0, hXS, hXl, hXW⟩ := HSTk.out.ss.at_ k (by rw [hX4]; exact hkl)
                have HXS := Lib.hid hXS
                have HXW := Lib.hid hXW
                have i1 : (0 : Int) ≤ (k : Int) := by omega
                have i2 : (k : Int) < 4 := by omega
                clear hXS hXW
                go_wp2_with fail
                refine gen_world fun wa hwa => ?_
                have hba : Below wr.heap.size wr wa := by rw [hwa]; exact below_alloc _ _
                have HLS : Hid (LsAt (· ≠ D) wa wr.heap.size [⟨OA, oc, ofN oth⟩, ⟨A2, c2, L2⟩]) := Lib.hid (LsAt.two (by rw [hwa, len_ofN, HOL.out]; exact heap_alloc_new _ _) (HSTk.out.s1.keep (Kept.below hba)) (HSTk.out.s2.keep (Kept.below hba)) (by rw [len_ofN]; omega) (by omega))
                have HSTa := Lib.hid (HSTk.out.below hba)
                have HXa := Lib.hid (HXS.out.below hba)
                have hba9 := below_trans hbk hba
                clear hwa y0 HSTk HXS
                generalize wr.heap.size = sl at *
                go_loopw [86] (fun i wr => ∃ k2 : Nat, k2 ≤ 2 ∧ i = .int .i64 k2 ∧ Below wa.heap.size wa wr) (fun i _ => 2 - (intOf i).toNat)
                case atStart => exact ⟨0, Nat.zero_le _, rfl, Below.refl _ _⟩
                case round =>
                  obtain ⟨k2, hk2, rfl, hbr⟩ := hrel
                  by_cases hk2l : k2 < 2
                  · obtain ⟨ZA, zc, ZL, z0, hZI, hZl⟩ := (HLS.out.below hbr).at_ k2 hk2l
                    have HZI := Lib.hid hZI
                    have HSTr := Lib.hid (HSTa.out.below hbr)
                    have HXr := Lib.hid (HXa.out.below hbr)
                    have j1 : (0 : Int) ≤ (k2 : Int) := by omega
                    have j2 : (k2 : Int) < 2 := by omega
                    have HE1 := Lib.hid (fun (W : World) (hb : Below wr.heap.size wr W) => explain_any HPN.out XA ZA xc zc XS ZL W ((HSTr.out.env.bases HB.out).keep hb) (HXr.out.below hb) (HXW.out.short (by omega)) (by omega) (HZI.out.ints.below hb) hZl)
                    have HE2 := Lib.hid (fun (W : World) (hb : Below wr.heap.size wr W) => refExplain_any HPN.out XA ZA xc zc XS ZL W (HXr.out.below hb) (HXW.out.short (by omega)) (by omega) (HZI.out.ints.below hb) hZl)
                    have HSH := Lib.hid (show Short (shL (xpL p n h XS ZL)) from xpL_short hZl)
                    have HSL := Lib.hid (show (shL (xpL p n h XS ZL)).length ≤ 16 from by rw [shL_len]; exact Nat.le_trans xpL_len (by omega))
                    generalize shL (xpL p n h XS ZL) = XL at *
                    generalize xpE p n h XS ZL = er at *
                    have p0 := HSTr.out.pp.c0
                    have p1 := HSTr.out.pp.c1
                    have p2 := HSTr.out.pp.c2
                    have hpl2 := HSTr.out.pp.lt
                    clear hZI
                    go_wp2_with fail
                    refine (HE1.out _ (Below.refl _ _)).mono ?_
                    rintro e wb ⟨E1, ce1, rfl, hE1, hbb⟩
                    have HL1 := Lib.hid hE1
                    replace p0 := (HSTr.out.below hbb).pp.c0
                    replace p1 := (HSTr.out.below hbb).pp.c1
                    replace p2 := (HSTr.out.below hbb).pp.c2
                    clear hE1 z0 HE1
                    go_wp2_with fail
                    refine (HE2.out _ hbb).mono ?_
                    rintro e wc ⟨E2, ce2, rfl, hE2, hbc⟩
                    have HL2 := Lib.hid hE2
                    replace HL1 := Lib.hid (HL1.out.below hbc)
                    have HBC := Lib.hid (below_trans hbb hbc)
                    have her : (er != er) = false := by simp
                    clear hE2 HE2 hbb hbc p0 p1 p2
                    go_wp2_with fail
                    refine ret_below (same_sh E1 E2 XL ce1 ce2 _ _ wc HL1.out HL2.out HSH.out (by have := HSL.out; omega) rfl rfl) ?_
                    intro wd hbd
                    have HBD := Lib.hid (below_trans HBC.out hbd)
                    clear hbd
                    go_wp2_with fail
                    go_roundw
                    case rel => exact ⟨k2 + 1, by omega, by go_num, below_trans hbr HBD.out⟩
                    case measure => simp [intOf]; omega
                  · obtain rfl : k2 = 2 := by omega
                    have HBR := Lib.hid (hba9.trans (hbr.mono hba9.size))
                    go_wp2_with fail
                    go_roundw
                    case rel => exact ⟨k + 1, by omega, by go_num, HBR.out⟩
                    case measure => simp [intOf]; omega
              · obtain rfl : k = 4 := by omega
                go_wp2_with fail
                refine ret_below (awake_any _ (HSTk.out.env.bases HB.out)) ?_
                intro wz hbz
                go_wp2_with fail
                go_ret
                exact RetB.bool rfl (HSTk.out.env.mv hbz).below
        · have hc2 : ml ≤ q := by omega
          have hc3 : ¬ q < ml := by omega
          have hkm : ml ≤ M.length := by omega
          have HK := Lib.hid (show (M.take ml).length = ml by rw [List.length_take]; omega)
          have HTK : Hid (ShP (· ≠ D) w7 TA tc (shL (M.take ml))) := Lib.hid (by rw [← shL_take]; exact HT.out.take ml)
          have HWK : Hid (Wide 2 (shL (M.take ml))) := Lib.hid (fun k hk => by
            rw [← shL_take] at hk ⊢
            have hk' : k < (shL M).length := Nat.lt_of_lt_of_le hk (List.length_take_le' _ _)
            have hk2 : k < ml := Nat.lt_of_lt_of_le hk (List.length_take_le _ _)
            rw [vS_take hk2]; exact HWM.out k hk')
          have ek1 : (ml : Int) ≤ (tc : Int) := by have := HTC.out; omega
          have ek3 : (0 : Int) ≤ (ml : Int) := by omega
          go_wp2_with fail
          go_region_held3 (fun w' => w'.cell? ⟨px, 0, none⟩ = some (.int .i64 (p : Int)) ∧ w'.cell? ⟨px, 1, none⟩ = some (.int .i64 (n : Int)) ∧ w'.cell? ⟨px, 2, none⟩ = some (.int .i64 (h : Int))) (first | go_keep)
            ((go_at_call 32; refine (oddN D 2 _ (some ⟨b2, off2, none⟩) lc q (N.take q) _ (by exact hE7.dice) (by first | exact HTQ.out | exact HTQ.out.below (below_drewT _)) HWQ.out (by omega) (by rw [HQL.out]; omega) HQL.out.symm).mono ?_; intro e w8 he; obtain ⟨QA, qc, S4, R8, rfl, hS4, hl4, hW4, hD8, hg8⟩ := he.open_; have hg8' : w7.grownBy w8 (some D) := (by first | exact grown_undrew hg8 | exact hg8); have hE8 := hE7.next hD8 hg8'; have q0 := (HP4.out.mv hg8' hxD).c0; have q1 := (HP4.out.mv hg8' hxD).c1; have q2 := (HP4.out.mv hg8' hxD).c2))
          all_goals
            rw [shL_len, HQL.out] at hl4
            have HS4 := Lib.hid hS4
            have HW4 := Lib.hid hW4
            replace HP4 := Lib.hid (HP4.out.mv hg8' hxD)
            replace HR1 := Lib.hid (HR1.out.mv hg8')
            replace HS2 := Lib.hid (HS2.out.keep (Kept.mv hg8'))
            replace HT := Lib.hid (HT.out.mv hg8')
            replace HTK := Lib.hid (HTK.out.mv hg8')
            replace HOI := Lib.hid (HOI.out.keep (Kept.mv hg8'))
            clear he hS4 hW4 hD8 hg8 hg8' hE7 q0 q1 q2 p0 p1 p2
            go_wp2_with fail
            refine gen_world fun w9 hw9 => ?_
            have hb9 : Below w8.heap.size w8 w9 := by rw [hw9]; (repeat (first | exact bl_refl _ | apply bl_drew | apply bl_alloc))
            have HX : ∃ X : List SI, X.length = 4 ∧ SsAt (· ≠ D) w9 w8.heap.size X := ⟨_, rfl, SsAt.four (by rw [hw9]; exact heap_alloc_new _ _) (by rw [shL_len]; exact HML.out) (by rw [shL_len, HK.out]) rfl rfl
              ⟨HT.out.below hb9, by rw [shL_len]; omega, HWM.out.mono (by omega)⟩ ⟨HTK.out.below hb9, by rw [shL_len, HK.out]; omega, HWK.out.mono (by omega)⟩ ⟨HR1.out.below hb9, by omega, HRW.out.mono (by omega)⟩ ⟨HS4.out.below hb9, by omega, HW4.out.mono (by omega)⟩⟩
            obtain ⟨X, hX4, hSS⟩ := HX
            have HST : Hid (XSt w w9 D R8 px p n h w8.heap.size X OA oc (ofN oth) A2 c2 L2) := Lib.hid ⟨hE8.mv hb9, HP4.out.below hb9, hSS, HOI.out.keep (Kept.below hb9), HS2.out.keep (Kept.below hb9)⟩
            clear hw9 hb9 hSS hE8 HP4 HR1 HS2 HT HTK HOI HS4 HW4 HWK HRW HTQ HWQ HLP
            generalize w8.heap.size = gl at *
            go_loopw [78] (fun i wr => ∃ k : Nat, k ≤ 4 ∧ i = .int .i64 k ∧ Below w9.heap.size w9 wr) (fun i _ => 4 - (intOf i).toNat)
            case atStart => exact ⟨0, Nat.zero_le _, rfl, Below.refl _ _⟩
            case round =>
              obtain ⟨k, hk, rfl, hbk⟩ := hrel
              have HSTk := Lib.hid (HST.out.below hbk)
              by_cases hkl : k < 4
              · obtain ⟨XA, xc, XS, y0, hXS, hXl, hXW⟩ := HSTk.out.ss.at_ k (by rw [hX4]; exact hkl)
                have HXS := Lib.hid hXS
                have HXW := Lib.hid hXW
                have i1 : (0 : Int) ≤ (k : Int) := by omega
                have i2 : (k : Int) < 4 := by omega
                clear hXS hXW
                go_wp2_with fail
                refine gen_world fun wa hwa => ?_
                have hba : Below wr.heap.size wr wa := by rw [hwa]; exact below_alloc _ _
                have HLS : Hid (LsAt (· ≠ D) wa wr.heap.size [⟨OA, oc, ofN oth⟩, ⟨A2, c2, L2⟩]) := Lib.hid (LsAt.two (by rw [hwa, len_ofN, HOL.out]; exact heap_alloc_new _ _) (HSTk.out.s1.keep (Kept.below hba)) (HSTk.out.s2.keep (Kept.below hba)) (by rw [len_ofN]; omega) (by omega))
                have HSTa := Lib.hid (HSTk.out.below hba)
                have HXa := Lib.hid (HXS.out.below hba)
                have hba9 := below_trans hbk hba
                clear hwa y0 HSTk HXS
                generalize wr.heap.size = sl at *
                go_loopw [86] (fun i wr => ∃ k2 : Nat, k2 ≤ 2 ∧ i = .int .i64 k2 ∧ Below wa.heap.size wa wr) (fun i _ => 2 - (intOf i).toNat)
                case atStart => exact ⟨0, Nat.zero_le _, rfl, Below.refl _ _⟩
                case round =>
                  obtain ⟨k2, hk2, rfl, hbr⟩ := hrel
                  by_cases hk2l : k2 < 2
                  · obtain ⟨ZA, zc, ZL, z0, hZI, hZl⟩ := (HLS.out.below hbr).at_ k2 hk2l
                    have HZI := Lib.hid hZI
                    have HSTr := Lib.hid (HSTa.out.below hbr)
                    have HXr := Lib.hid (HXa.out.below hbr)
                    have j1 : (0 : Int) ≤ (k2 : Int) := by omega
                    have j2 : (k2 : Int) < 2 := by omega
                    have HE1 := Lib.hid (fun (W : World) (hb : Below wr.heap.size wr W) => explain_any HPN.out XA ZA xc zc XS ZL W ((HSTr.out.env.bases HB.out).keep hb) (HXr.out.below hb) (HXW.out.short (by omega)) (by omega) (HZI.out.ints.below hb) hZl)
                    have HE2 := Lib.hid (fun (W : World) (hb : Below wr.heap.size wr W) => refExplain_any HPN.out XA ZA xc zc XS ZL W (HXr.out.below hb) (HXW.out.short (by omega)) (by omega) (HZI.out.ints.below hb) hZl)
                    have HSH := Lib.hid (show Short (shL (xpL p n h XS ZL)) from xpL_short hZl)
                    have HSL := Lib.hid (show (shL (xpL p n h XS ZL)).length ≤ 16 from by rw [shL_len]; exact Nat.le_trans xpL_len (by omega))
                    generalize shL (xpL p n h XS ZL) = XL at *
                    generalize xpE p n h XS ZL = er at *
                    have p0 := HSTr.out.pp.c0
                    have p1 := HSTr.out.pp.c1
                    have p2 := HSTr.out.pp.c2
                    have hpl2 := HSTr.out.pp.lt
                    clear hZI
                    go_wp2_with fail
                    refine (HE1.out _ (Below.refl _ _)).mono ?_
                    rintro e wb ⟨E1, ce1, rfl, hE1, hbb⟩
                    have HL1 := Lib.hid hE1
                    replace p0 := (HSTr.out.below hbb).pp.c0
                    replace p1 := (HSTr.out.below hbb).pp.c1
                    replace p2 := (HSTr.out.below hbb).pp.c2
                    clear hE1 z0 HE1
                    go_wp2_with fail
                    refine (HE2.out _ hbb).mono ?_
                    rintro e wc ⟨E2, ce2, rfl, hE2, hbc⟩
                    have HL2 := Lib.hid hE2
                    replace HL1 := Lib.hid (HL1.out.below hbc)
                    have HBC := Lib.hid (below_trans hbb hbc)
                    have her : (er != er) = false := by simp
                    clear hE2 HE2 hbb hbc p0 p1 p2
                    go_wp2_with fail
                    refine ret_below (same_sh E1 E2 XL ce1 ce2 _ _ wc HL1.out HL2.out HSH.out (by have := HSL.out; omega) rfl rfl) ?_
                    intro wd hbd
                    have HBD := Lib.hid (below_trans HBC.out hbd)
                    clear hbd
                    go_wp2_with fail
                    go_roundw
                    case rel => exact ⟨k2 + 1, by omega, by go_num, below_trans hbr HBD.out⟩
                    case measure => simp [intOf]; omega
                  · obtain rfl : k2 = 2 := by omega
                    have HBR := Lib.hid (hba9.trans (hbr.mono hba9.size))
                    go_wp2_with fail
                    go_roundw
                    case rel => exact ⟨k + 1, by omega, by go_num, HBR.out⟩
                    case measure => simp [intOf]; omega
              · obtain rfl : k = 4 := by omega
                go_wp2_with fail
                refine ret_below (awake_any _ (HSTk.out.env.bases HB.out)) ?_
                intro wz hbz
                go_wp2_with fail
                go_ret
                exact RetB.bool rfl (HSTk.out.env.mv hbz).below
  · have hL := light_any A0 L0.length c0 w
    rw [decide_eq_false hlight] at hL
    have HLt := Lib.hid hL
    clear hL
    go_enter Tryd.func8, Tryd.ntmps8
    go_wp2_with fail
    refine ret_pure HLt.out ?_
    go_wp2_with fail
    refine ret_below (awake_any _ HB.out) ?_
    intro w1 hb1
    go_wp2_with fail
    go_ret
    exact RetB.bool rfl hb1
end Go.Proofs.YtkjpnhhkebbmdaaDoor
namespace Go.Proofs.YtkjpnhhkebbmdaaDoor
open Go.RowKit

theorem cell_block_lt {w : World} {a : Addr} {v : Value} (h : w.cell? a = some v) : a.block < w.heap.size := by
  rcases Nat.lt_or_ge a.block w.heap.size with hlt | hge
  · exact hlt
  · unfold World.cell? at h; simp [Array.getElem?_eq_none hge] at h
theorem open_row {W : World} {x : Addr} {len cap : Nat} {zs : List Int} (hl : len ≤ cap) (hm : cap ≤ maxLen) (hz : zs.length = cap) (hcell : ∀ i, i < zs.length → W.cell? (x.add i) = some (.int .i64 (zs.getD i 0)))
    (hb : ∀ n ∈ zs, -9223372036854775808 ≤ n ∧ n ≤ 9223372036854775807) :
    ∃ ys : List Int, ys.length = len ∧ ys.length ≤ maxLen ∧ IntsAt W (some x) ys ∧ ∀ n ∈ ys, -9223372036854775808 ≤ n ∧ n ≤ 9223372036854775807 := by
  refine ⟨zs.take len, by simp; omega, by simp; omega, fun k hk => ?_, fun n hn => hb n (List.mem_of_mem_take hn)⟩
  have hk' : k < len := by simpa using Nat.lt_of_lt_of_le hk (List.length_take_le _ _)
  have h0 := hcell 0 (by omega)
  have hk0 := hcell k (by omega)
  obtain ⟨b, off, spot⟩ := x
  have hs : spot = none := by simpa [Addr.add] using World.cell?_spot h0
  subst hs
  have hlt := cell_block_lt hk0
  refine ⟨b, off, rfl, ?_, ?_⟩
  · unfold Addr.add at hlt; split at hlt <;> exact hlt
  · have e : (⟨b, off, none⟩ : Addr).add k = ⟨b, off + k, none⟩ := by
      unfold Addr.add; split
      · rename_i h; subst h; rfl
      · rfl
    rw [← e, hk0, nth_eq hk]
    simp [List.getD_eq_getElem?_getD, show k < zs.length by omega]
end Go.Proofs.YtkjpnhhkebbmdaaDoor
namespace Go.Proofs.YtkjpnhhkebbmdaaDoor
open Go.RowKit

theorem open_rowx {W : World} {x : Addr} {len cap : Nat} {zs : List Int} (hl : len ≤ cap) (hm : cap ≤ maxLen) (hz : zs.length = cap) (hcell : ∀ i, i < zs.length → W.cell? (x.add i) = some (.int .i64 (zs.getD i 0)))
    (hb : ∀ n ∈ zs, -9223372036854775808 ≤ n ∧ n ≤ 9223372036854775807) :
    ∃ ys : List Int, ys.length = len ∧ IOK (some x) cap ys.length ∧ IntsAt W (some x) ys ∧ ∀ n ∈ ys, -9223372036854775808 ≤ n ∧ n ≤ 9223372036854775807 := by
  obtain ⟨ys, h1, h2, h3, h4⟩ := open_row hl hm hz hcell hb
  refine ⟨ys, h1, ⟨by omega, hm, (fun e => by cases e), ?_⟩, h3, h4⟩
  rcases Nat.eq_zero_or_pos ys.length with h0 | h0
  · exact .inl h0
  · obtain ⟨b, off, e, _⟩ := h3 0 h0
    injection e with e
    subst e
    exact .inr fun a e2 => by injection e2 with e2; subst e2; rfl
end Go.Proofs.YtkjpnhhkebbmdaaDoor
namespace Go.Proofs.YtkjpnhhkebbmdaaDoor
open Go.RowKit Go.ChangeShapes Go.WideShapes

theorem add_none (b off j : Nat) : (⟨b, off, none⟩ : Addr).add j = ⟨b, off + j, none⟩ := by
  unfold Addr.add; split
  · rename_i h; subst h; rfl
  · rfl
theorem open_shares {H : Type} {enc : TypeId × Value → H} {w : World} {base : Nat} {held : Bool} {n : Nat} {v : Value} {y : DataW H × List MemPlace} (h : DataW.trod enc Tryd.prog w base (fun _ => true) held n 37 [v] = some y) :
    ∃ (B : Option Addr) (S : List Shr) (c : Nat), v = .slice B S.length c ∧ S.length ≤ maxLen ∧ ShP (fun _ => True) w B c S := by
  rcases Deep.open_slice_pairs Tryd.underlying37 Tryd.underlying47 (by kernel_rfl) rfl rfl (by kernel_rfl) (by kernel_rfl) h with ⟨hcs, _⟩ | ⟨a, len, cap, m, n', V0, V1, D0, D1, P0, P1, hcs, _, hl, hm, hmm, _, hx⟩
  · simp only [List.cons.injEq, and_true] at hcs
    subst hcs
    exact ⟨none, [], 0, rfl, by simp [maxLen], ShP.nil _ _⟩
  · simp only [List.cons.injEq, and_true] at hcs
    subst hcs
    have hlm : len ≤ m := by rw [hmm]; split <;> omega
    have each : ∀ i, i < m → ∃ q : Int × List Int, w.cell? (a.add (i * 2)) = some (.int .i64 q.1) ∧ ∃ B c, w.cell? (a.add (i * 2 + 1)) = some (.slice B q.2.length c) ∧ IntsP (fun _ => True) w B c q.2 := fun i hi => by
      obtain ⟨h1, h2, h3, h4⟩ := hx i hi
      obtain ⟨t, e1, _, _⟩ := DataW.trod_int Tryd.underlying3 h3
      simp only [List.cons.injEq, and_true] at e1
      rcases open_ints Tryd.underlying22 Tryd.underlying3 (by kernel_rfl) h4 with ⟨hcs, _⟩ | ⟨x, l, c, zs, hcs, _, hl', hm', hz, _, hcell, hwz⟩
      · simp only [List.cons.injEq, and_true] at hcs
        exact ⟨(t, []), by rw [h1, e1], none, 0, by rw [h2, hcs]; rfl, IntsAt.nil _ _, IOK.none0, fun b off e => by cases e⟩
      · simp only [List.cons.injEq, and_true] at hcs
        obtain ⟨ys, g1, g2, g3, _⟩ := open_rowx hl' hm' (by simpa using hz) hcell (fun n hn => bounds_i64 (hwz n hn))
        exact ⟨(t, ys), by rw [h1, e1], some x, c, by rw [h2, hcs, g1], g3, g2, fun b off e => .inr trivial⟩
    have hq : ∃ q : Nat → Int × List Int, ∀ i, i < m → w.cell? (a.add (i * 2)) = some (.int .i64 (q i).1) ∧ ∃ B c, w.cell? (a.add (i * 2 + 1)) = some (.slice B (q i).2.length c) ∧ IntsP (fun _ => True) w B c (q i).2 :=
      ⟨fun i => if h : i < m then (each i h).choose else (0, []), fun i hi => by simp only [dif_pos hi]; exact (each i hi).choose_spec⟩
    obtain ⟨q, hq⟩ := hq
    have hlen : ((List.range len).map q).length = len := by simp
    have hspot : 0 < len → a.spot = none := fun h0 => by
      have := World.cell?_spot (hq 0 (by omega)).1
      simpa [Addr.add] using this
    refine ⟨some a, (List.range len).map q, cap, by rw [hlen], by rw [hlen]; omega, fun k hk => ?_, by rw [hlen]; omega, hm, (fun e => by cases e), ?_⟩
    · rw [hlen] at hk
      have hs := hspot (by omega)
      obtain ⟨b, off, spot⟩ := a
      have hs : spot = none := hs
      subst hs
      obtain ⟨h1, B, c, h2, h3⟩ := hq k (by omega)
      rw [add_none] at h1 h2
      have hlt := cell_block_lt h1
      have e1 : hS ((List.range len).map q) k = (q k).1 := by simp [hS, List.getD_eq_getElem?_getD, hk]
      have e2 : vS ((List.range len).map q) k = (q k).2 := by simp [vS, List.getD_eq_getElem?_getD, hk]
      refine ⟨b, off, B, c, rfl, hlt, trivial, ?_, ?_, ?_⟩
      · rw [h1, e1]
      · rw [show off + k * 2 + 1 = off + (k * 2 + 1) by omega, h2, e2]
      · rw [e2]; exact h3
    · rcases Nat.eq_zero_or_pos len with h0 | h0
      · exact .inl (by rw [hlen]; exact h0)
      · exact .inr fun a' e => by injection e with e; subst e; exact hspot h0
end Go.Proofs.YtkjpnhhkebbmdaaDoor
