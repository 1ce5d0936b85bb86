/-
  Shares: the document's Explain.
  The document's Explain of good known shares.
  ReshareHides: the walk.
  A slice of numbers that came in reads as a list.
  Conditions: those that each theorem names.
-/
import Derived.Test.YtlhipgejiacklaaDoorM9
set_option linter.unusedVariables false
set_option linter.unusedSimpArgs false
namespace Go.Proofs.YtlhipgejiacklaaDoor
open Go.RowKit Go.Maps

theorem exX_mem {hs : List Nat} {j : Nat} : (j + 1) ∈ hs ↔ (j + 1) ∈ hs := Iff.rfl
theorem exX_held {hs : List Nat} {j : Nat} (h : (j + 1) ∈ hs) : exX hs (j + 1) = exX hs j := by unfold exX; rw [fill_held h]
theorem exX_new {hs : List Nat} {j : Nat} (h : ¬ (j + 1) ∈ hs) : exX hs (j + 1) = exX hs j ++ [j + 1] := by unfold exX; rw [fill_new h]; simp only [List.append_assoc]
theorem exX_many (hs : List Nat) (j : Nat) : j + 1 ≤ (exX hs j).length := by rw [exX_len]; have := fill_many hs j; omega
def yyL (cs : List Nat) (x c : Nat) : List Nat := cs ++ [x] ++ List.replicate c 0
theorem yyL_succ (cs : List Nat) (x c : Nat) : yyL cs x (c + 1) = yyL cs x c ++ [0] := by
  unfold yyL; rw [List.replicate_succ', List.append_assoc, List.append_assoc, List.append_assoc]
theorem yyL_len (cs : List Nat) (x c : Nat) : (yyL cs x c).length = cs.length + 1 + c := by unfold yyL; simp; omega
theorem fill_len_held {hs : List Nat} {j : Nat} (h : (j + 1) ∈ hs) : (fillN hs (j + 1)).length = (fillN hs j).length := by rw [fill_held h]
theorem fill_len_new {hs : List Nat} {j : Nat} (h : ¬ (j + 1) ∈ hs) : (fillN hs (j + 1)).length = (fillN hs j).length + 1 := by rw [fill_new h]; simp
theorem exX_zero' (hs : List Nat) : hs ++ [0] = exX hs 0 := by unfold exX fillN; rw [List.append_nil]
theorem yyL_zero (cs : List Nat) (x : Nat) : cs ++ [x] = yyL cs x 0 := by unfold yyL; rw [List.replicate_zero, List.append_nil]

attribute [local go_sem high] run_make_sh
set_option maxRecDepth 100000 in
set_option maxHeartbeats 8000000 in
theorem refExplain_any {P0 : Nat → Prop} {p n h : Nat} (P : PlanN p n h) (A B : Option Addr) (ca cb : Nat) (S : List Shr) (sec : List Int) (w : World) (hS : ShP P0 w A ca S) (hsh : Short S) (hl : S.length ≤ 1048576) (hI : IntsAt w B sec) (hl2 : sec.length ≤ 1048576) :
    Calls Tryd.prog 48 #[planV p n h, .slice A S.length ca, .slice B sec.length cb] w (ShErr (shL (xpL p n h S sec)) (xpE p n h S sec) w) := by
  have hpv : primeV (p : Int) = true := by rw [P.pv]; have := of_decide_eq_true P.pl; exact this.2.2.2.2
  have hva := refValid_plan p n h (w.alloc (.cells #[.int .i64 (p : Int), .int .i64 (n : Int), .int .i64 (h : Int)] 28)) P.pv
  rw [P.pl] at hva
  have HVAL := Lib.hid hva
  have HGD := Lib.hid (fun (W : World) (hb : Below w.heap.size w W) => refGood_any p n h A ca S W hpv (hS.below hb) hsh hl)
  have HES := Lib.hid (fun (W : World) (hb : Below w.heap.size w W) => refElems_any p B sec cb W hpv (hI.below hb) (by omega))
  have HS := Lib.hid hS
  have HI := Lib.hid hI
  have HPN := Lib.hid P
  have hn1 := P.n1
  have hnh := P.nh
  have hh7 := P.h7
  have hhp := P.hp
  have hp2 := P.p2
  have hp1 := P.p1
  clear hva hS hI hsh P hpv
  cases hgd : gdB p h S with
  | false =>
    have he := xpE_gd (n := n) (sec := sec) hgd
    rw [xpL_no (by rw [he]; decide), he]
    rw [hgd] at HGD
    clear hgd he
    go_enter Tryd.func48, Tryd.ntmps48
    go_wp2_with fail
    refine ret_below HVAL.out ?_
    intro w1 hb1
    have hbw1 := below_trans (below_alloc _ _) hb1
    have HP1 := Lib.hid ((PlanCell.new (w := w) p n h rfl).below hb1)
    have p0 := HP1.out.c0
    have p1 := HP1.out.c1
    have p2 := HP1.out.c2
    go_wp2_with fail
    refine ret_below (HGD.out _ hbw1) ?_
    intro w2 hb2
    have hbw2 := below_trans hbw1 hb2
    have HP2 := Lib.hid (HP1.out.below hb2)
    clear p0 p1 p2
    have p0 := HP2.out.c0
    have p1 := HP2.out.c1
    have p2 := HP2.out.c2
    go_wp2_with fail
    go_ret2
    exact ShErr.nil _ hbw2
  | true =>
    rw [hgd] at HGD
    have HGT := Lib.hid hgd
    clear hgd
    rcases Nat.eq_zero_or_pos S.length with h0 | h0
    · have hln : S.length = 0 ∨ (vS S 0).length = sec.length := .inl h0
      have HLN := Lib.hid hln
      clear hln
      rw [h0] at HGD hl ⊢
      have HZ := Lib.hid h0
      clear h0
      cases hin : inside p sec with
      | false =>
        have he := xpE_in (p := p) (n := n) (h := h) HGT.out HLN.out hin
        rw [xpL_no (by rw [he]; decide), he]
        rw [hin] at HES
        clear he hin
        go_enter Tryd.func48, Tryd.ntmps48
        go_wp2_with fail
        refine ret_below HVAL.out ?_
        intro w1 hb1
        have hbw1 := below_trans (below_alloc _ _) hb1
        have HP1 := Lib.hid ((PlanCell.new (w := w) p n h rfl).below hb1)
        have p0 := HP1.out.c0
        have p1 := HP1.out.c1
        have p2 := HP1.out.c2
        go_wp2_with fail
        refine ret_below (HGD.out _ hbw1) ?_
        intro w2 hb2
        have hbw2 := below_trans hbw1 hb2
        have HP2 := Lib.hid (HP1.out.below hb2)
        clear p0 p1 p2
        have p0 := HP2.out.c0
        have p1 := HP2.out.c1
        have p2 := HP2.out.c2
        go_wp2_with fail
        refine ret_pure (HES.out _ hbw2) ?_
        go_wp2_with fail
        go_ret2
        exact ShErr.nil _ hbw2
      | true =>
        rw [hin] at HES
        by_cases hbig : 2048 < sec.length
        · have he := xpE_few (p := p) (n := n) (h := h) HGT.out HLN.out hin (.inr hbig)
          rw [xpL_no (by rw [he]; decide), he]
          have f0 : ¬ ((n : Int) ≤ ((0 : Nat) : Int)) := by omega
          have f1 : (2048 : Int) < (sec.length : Int) := by omega
          clear he hin
          go_enter Tryd.func48, Tryd.ntmps48
          go_wp2_with fail
          refine ret_below HVAL.out ?_
          intro w1 hb1
          have hbw1 := below_trans (below_alloc _ _) hb1
          have HP1 := Lib.hid ((PlanCell.new (w := w) p n h rfl).below hb1)
          have p0 := HP1.out.c0
          have p1 := HP1.out.c1
          have p2 := HP1.out.c2
          go_wp2_with fail
          refine ret_below (HGD.out _ hbw1) ?_
          intro w2 hb2
          have hbw2 := below_trans hbw1 hb2
          have HP2 := Lib.hid (HP1.out.below hb2)
          clear p0 p1 p2
          have p0 := HP2.out.c0
          have p1 := HP2.out.c1
          have p2 := HP2.out.c2
          go_wp2_with fail
          refine ret_pure (HES.out _ hbw2) ?_
          go_wp2_with fail
          go_ret2
          exact ShErr.nil _ hbw2
        have he := xpE_ok (p := p) (n := n) (h := h) HGT.out HLN.out hin (fun e => e.elim (fun e => by have := HZ.out; omega) hbig)
        rw [xpL_ok he, he]
        obtain ⟨hSN, hg⟩ := gd_nat (gdB_of HGT.out)
        obtain ⟨e1, e2⟩ := inside_nat hin
        have hs1 : (sec.map Int.toNat).length = sec.length := by simp
        have hSNl : (sec.map Int.toNat).length ≤ 2048 := by omega
        have hAn : NatsAt w B (sec.map Int.toNat) := IntsAt.nats (by rw [e1]; exact HI.out)
        have HAN := Lib.hid hAn
        have HG := Lib.hid hg
        have HSP := Lib.hid e2
        have HS1 := Lib.hid hs1
        have hNl : (natL S).length = 0 := by have h1 := natL_len S; have h2 := HZ.out; omega
        have HNL := Lib.hid hNl
        have HVL := Lib.hid (show ∀ k, k < (natL S).length → (vN (natL S) k).length = sec.length from fun k hk => by
          have hk' : k < S.length := by rw [natL_len] at hk; exact hk
          have h1 := hg.len k hk
          have h2 : (vN (natL S) 0).length = (vS S 0).length := by
            conv => rhs; rw [hSN]
            rw [vS_shL, len_ofN]
          rw [h1, h2]
          exact HLN.out.resolve_left (by omega))
        have HNS : Hid (ShP P0 w A ca (shL (natL S))) := by rw [← hSN]; exact HS.out
        have hf0 : ¬ ((n : Int) ≤ ((0 : Nat) : Int)) := by omega
        have hf1 : ¬ ((2048 : Int) < (sec.length : Int)) := by omega
        have hnl2 : 0 + 1 ≤ n := by omega
        have hhl : (hsN (natL S)).length = 0 := by rw [hsN_len]; exact hNl
        have HHR := Lib.hid (show ∀ x ∈ hsN (natL S), x ≤ 4294967296 from fun x hx => by have := hs_rng hg x hx; omega)
        have HXLT := Lib.hid (show ∀ x ∈ hsN (natL S), x < p from fun x hx => by have := hs_rng hg x hx; omega)
        have HPO := Lib.hid (fun (i : Nat) (hi : i < sec.length) (W : World) (hb : Below w.heap.size w W) => points_any A ca (natL S) i W (HNS.out.below hb) (by rw [HNL.out]; omega) (fun k hk => by rw [HVL.out k hk]; exact hi) (by omega))
        rw [hNl] at HPO
        have HHL := Lib.hid hhl
        have hcl : ∀ i, (colN (natL S) i).length = 0 := fun i => by rw [colN_len]; exact hNl
        have HCL := Lib.hid hcl
        have HHN := Lib.hid (fun k (hk : k < (natL S).length) => hsN_nth hk)
        have hmk : h ≤ 1000 := by omega
        have HCP := Lib.hid (fun e => exY_lt (K := natL S) (sec := sec.map Int.toNat) (c := n - 1 - (natL S).length) (e := e) (p := p) (by omega) (fun k hk => (hg.rng k hk).2.2) e2)
        have HDX : Hid (∀ j e x, j < p → (natL S).length + 1 + (fillN (hsN (natL S)) j).length = n → itE (exX (hsN (natL S)) j) (exY (natL S) (sec.map Int.toNat) (fillN (hsN (natL S)) j).length e) = 0 ∧ itV p (exX (hsN (natL S)) j) (exY (natL S) (sec.map Int.toNat) (fillN (hsN (natL S)) j).length e) x = evN p (exF p (hsN (natL S) ++ [0] ++ fillM (hsN (natL S)) (n - 1 - (natL S).length)) (exY (natL S) (sec.map Int.toNat) (n - 1 - (natL S).length)) e) x) := Lib.hid (fun j e x hj hf => by
          have h1 : (fillN (hsN (natL S)) j).length = n - 1 - (natL S).length := by omega
          have h2 := expl_it HPN.out hg e2 hj e x
          rw [fillM_of h1, ← h1]
          exact h2)
        clear he hin hbig hSN hg e1 e2 hs1 hAn hNl hhl hcl HS HI HZ HLN HGT
        generalize sec.map Int.toNat = SN at *
        generalize natL S = N at *
        have HXP : Hid (∀ j, j < p → ∀ y ∈ exX (hsN N) j, y < p) := Lib.hid (fun j hj => exX_lt HXLT.out hj)
        have HYY : Hid (∀ e c, exY N SN c e = yyL (colN N e) (nthN SN e) c) := Lib.hid (fun e c => rfl)
        obtain ⟨cF, hcF⟩ : ∃ cF, cF = n - 1 - N.length := ⟨_, rfl⟩
        have hxm : xpM p n h N SN = exT p h SN.length (exF p (hsN N ++ [0] ++ fillM (hsN N) cF) (exY N SN cF)) := by rw [hcF]; rfl
        have HXM := Lib.hid hxm
        rw [← hcF] at HCP HDX
        have hcF1 : cF + (0 + 1) = n := by rw [HNL.out] at hcF; omega
        clear hxm hcF
        generalize exF p (hsN N ++ [0] ++ fillM (hsN N) cF) (exY N SN cF) = FF at *
        go_enter Tryd.func48, Tryd.ntmps48
        go_wp2_with fail
        refine ret_below HVAL.out ?_
        intro w1 hb1
        have hbw1 := below_trans (below_alloc _ _) hb1
        have HP1 := Lib.hid ((PlanCell.new (w := w) p n h rfl).below hb1)
        have p0 := HP1.out.c0
        have p1 := HP1.out.c1
        have p2 := HP1.out.c2
        go_wp2_with fail
        refine ret_below (HGD.out _ hbw1) ?_
        intro w2 hb2
        have hbw2 := below_trans hbw1 hb2
        have HP2 := Lib.hid (HP1.out.below hb2)
        clear p0 p1 p2
        have p0 := HP2.out.c0
        have p1 := HP2.out.c1
        have p2 := HP2.out.c2
        go_wp2_with fail
        refine ret_pure (HES.out _ hbw2) ?_
        have hmm := @run_makeMap Tryd.prog
        go_wp2_with fail
        refine gen_world fun w4 hw4 => ?_
        have hbw4 : Below w2.heap.size w2 w4 := by rw [hw4]; exact below_alloc _ _
        have HM4 : Hid (w4.ownsMap Tryd.prog 3 (plainElem Tryd.prog 4) w2.heap.size 0 (Sn (H := Unit) (hsN N) 0)) := Lib.hid (by rw [hw4, Sn_zero]; exact World.ownsMap_made _ _ _ _)
        clear hw4 p0 p1 p2
        have hwb : w.heap.size < w2.heap.size := HP2.out.lt
        go_loopw [65] (fun i wr => ∃ k : Nat, k ≤ 0 ∧ i = .int .i64 k ∧ wr.ownsMap Tryd.prog 3 (plainElem Tryd.prog 4) w2.heap.size k (Sn (H := Unit) (hsN N) k) ∧ Below w2.heap.size w2 wr) (fun i _ => 0 - (intOf i).toNat)
        case atStart => exact ⟨0, Nat.zero_le _, rfl, HM4.out, hbw4⟩
        case round =>
          obtain ⟨k, hk, rfl, hown, hbr⟩ := hrel
          have HM := Lib.hid hown
          clear hown
          have hbwr := below_trans hbw2 hbr
          have hszr := hbr.size
          by_cases hlt : k < 0
          · exact absurd hlt (by omega)
          · obtain rfl : k = 0 := by omega
            obtain ⟨w4', hw4'⟩ : ∃ w4' : World, w4' = wr := ⟨_, rfl⟩
            rw [← hw4'] at HM hbr hbwr hszr
            rw [← hw4']
            clear hw4' HM4 hbw4
            have HP4 := Lib.hid (HP2.out.below hbr)
            have p2 := HP4.out.c2
            have hml := HM.out.lt
            go_wp2_with fail
            refine gen_world fun w5 hw5 => ?_
            have hb5 : Below w4'.heap.size w4' w5 := by rw [hw5]; exact below_alloc _ _
            have HO5 : Hid (HvOwn w5 w4'.heap.size (.slice (some ⟨w4'.heap.size, 0, none⟩) h h) (hhL h 0)) := Lib.hid (by rw [hw5, ← hhL_zero]; exact own_made _ _ (by omega))
            clear hw5 p2
            obtain ⟨g, hg⟩ : ∃ g, g = w4'.heap.size := ⟨_, rfl⟩
            rw [← hg] at HO5 hb5 hml
            rw [← hg]
            have hgw : w.heap.size < g := by omega
            have hgE1 : g ≤ w4'.heap.size := by omega
            have hgE2 : w4'.heap.size ≤ g := by omega
            clear hg
            have HMg := Lib.hid hml
            go_wp2_with fail
            go_loopw [78] (fun i wr => ∃ k : Nat, k ≤ h ∧ i = .int .i64 k ∧ HvOwn wr g (.slice (some ⟨g, 0, none⟩) h h) (hhL h k) ∧ Below g w4' wr) (fun i _ => h - (intOf i).toNat)
            case atStart => exact ⟨0, Nat.zero_le _, rfl, HO5.out, hb5⟩
            case round =>
              obtain ⟨t, ht, rfl, hown, hbt⟩ := hrel
              have HO := Lib.hid hown
              clear hown
              by_cases htl : t < h
              · obtain ⟨g2, c2, hv, hg2, -, -, -, hcell, hfr⟩ := HO.out.form (by rw [hhL_len]; omega)
                injection hv with ev1 ev2 ev3
                injection ev1 with ev1
                injection ev1 with ev1
                subst ev1
                obtain ⟨x0, x1⟩ := hcell t (by rw [hhL_len]; exact htl)
                have xf := hfr (t * 2)
                have i1 : (0 : Int) ≤ (t : Int) := by omega
                have i2 : (t : Int) < (h : Int) := by omega
                clear hcell hfr ev2 ev3
                go_wp2_with fail
                have hst := HO.out
                rw [show (Value.slice (some ⟨g, 0, none⟩) h h) = .slice (some ⟨g, 0, none⟩) (hhL h t).length h by rw [hhL_len]] at hst
                have hst2 := hst.set0 t (by rw [hhL_len]; exact htl) ((t : Int) + 1)
                rw [hhL_len, hhL_succ htl] at hst2
                have HST := Lib.hid hst2
                clear hst hst2 x0 x1 xf
                go_roundw
                case rel => exact ⟨t + 1, by omega, by go_num, HST.out, hbt.setCell (p := ⟨g, t * 2, none⟩) (Nat.le_refl _) _⟩
                case measure => simp [intOf]; omega
              · obtain rfl : t = h := by omega
                have HR0 := Lib.hid (rows_hh HO.out)
                obtain ⟨w6, hw6⟩ : ∃ w6 : World, w6 = wr := ⟨_, rfl⟩
                rw [← hw6] at HR0 hbt
                rw [← hw6]
                clear hw6 HO HO5 hb5
                have HR1 : Hid (Rows2 w6 g (.slice (some ⟨g, 0, none⟩) t t) (hhL t t) (exT p t 0 FF)) := by rw [exT_zero]; exact HR0.out
                have hz6 := hbt.size
                go_wp2_with fail
                go_loopw [90] (fun i wr => ∃ (m : Nat) (H : List HV), m ≤ sec.length ∧ i = .int .i64 m ∧ Rows2 wr g (.slice (some ⟨g, 0, none⟩) t t) H (exT p t m FF) ∧ Below g w4' wr) (fun i _ => sec.length - (intOf i).toNat)
                case atStart => exact ⟨0, _, Nat.zero_le _, rfl, HR1.out, hbt⟩
                case round =>
                  obtain ⟨m, H, hm, rfl, hR, hbm⟩ := hrel
                  have HR := Lib.hid hR
                  clear hR HR0 HR1 hbt hz6
                  have hgm : g ≤ wr.heap.size := by have := (World.ownsRow.lt HR.out.out g rfl).2; omega
                  by_cases hml2 : m < sec.length
                  · obtain ⟨bA, oA, rfl, hbA, hcA⟩ := HAN.out m (by rw [HS1.out]; exact hml2)
                    have hbwm : Below w.heap.size w wr := hbwr.trans (hbm.mono (by omega))
                    have hcA2 := (hbwm.cell (p := ⟨bA, oA + m, none⟩) hbA).trans hcA
                    have hbAr : bA < wr.heap.size := Nat.lt_of_lt_of_le hbA hbwm.size
                    have HPm : Hid (PlanCell wr w.heap.size p n t) := Lib.hid (HP4.out.keep (hbm.block _ (by omega)))
                    have HMm := Lib.hid (map_keep HM.out (hbm.block _ HMg.out))
                    have HDm := Lib.hid (fun j x => HDX.out j m x)
                    have HYm := Lib.hid (fun c => HYY.out m c)
                    have HPm0 := Lib.hid (HPO.out m hml2)
                    have HCm := Lib.hid (HCL.out m)
                    have HCPm := Lib.hid (HCP.out m)
                    have HSTm := Lib.hid (exT_succ p t m FF)
                    have HTL := Lib.hid (exT_len p t m FF)
                    have HTA := Lib.hid (fun j (hj : j < t) => exT_at (p := p) (m := m) (F := FF) hj)
                    rw [HYm.out cF] at HCPm
                    generalize FF m = f at HDm HSTm
                    generalize colN N m = col at *
                    generalize nthN SN m = x at *
                    generalize exT p t m FF = T at *
                    obtain ⟨wq, hwq⟩ : ∃ wq : World, wq = wr := ⟨_, rfl⟩
                    rw [← hwq] at HR hbm hgm hbwm hcA2 hbAr HPm HMm
                    rw [← hwq]
                    clear hwq hcA
                    go_wp2_with fail
                    refine (HPm0.out wq hbwm).mono ?_
                    rintro e w7 ⟨XA, xc, YA, yc, rfl, hT7⟩
                    have HT7 := Lib.hid hT7
                    have hcl1 : col.length ≤ 4194304 := by rw [HCm.out]; omega
                    have hsl1 : (hsN N).length ≤ 4194304 := by rw [HHL.out]; omega
                    have HLX := Lib.hid (exX_zero' (hsN N))
                    have HLY := Lib.hid (yyL_zero col x)
                    clear hT7 hcA2
                    go_wp2_with (first
                      | (at_builtin; refine app_two rfl (.tmp 101) (.tmp 102) rfl (w0 := wq) (base := wq.heap.size) (lo := wq.heap.size) (X := hsN N) (Y := col) (y := 0) rfl rfl (HT7.out.alloc _) (lit1_at _ _ 0 rfl) hsl1 ?_; intro v8 w8 hT8; rw [HLX.out] at hT8; obtain ⟨X8, x8c, Y8, y8c, rfl, -⟩ := hT8.forms; have HT8 := Lib.hid hT8; clear hT8)
                      | (at_builtin; refine app_two rfl (.tmp 104) (.tmp 106) rfl (w0 := wq) (base := wq.heap.size) (lo := wq.heap.size) (X := col) (Y := exX (hsN N) 0) (y := x) rfl rfl (HT8.out.swap.alloc _) (lit1_at _ _ x rfl) hcl1 ?_; intro v9 w9 hT9; rw [HLY.out] at hT9; obtain ⟨Y9, y9c, X9, x9c, rfl, -⟩ := hT9.forms; have HT9 := Lib.hid hT9.swap; clear hT9))
                    go_loopw [15, 16, 17] (fun vx vy i wr => ∃ j : Nat, i = .int .i64 ((j : Int) + 1) ∧ (exX (hsN N) j).length ≤ n ∧ Two wq wr wq.heap.size wq.heap.size vx (exX (hsN N) j) vy (yyL col x (fillN (hsN N) j).length)) (fun _ _ i _ => n - (intOf i).toNat)
                    case atStart =>
                      refine ⟨0, rfl, ?_, HT9.out⟩
                      have h1 := exX_len (hsN N) 0
                      have h2 : (fillN (hsN N) 0).length = 0 := rfl
                      rw [HHL.out, h2] at h1; omega
                    case round =>
                      obtain ⟨j, rfl, hjl, hTj⟩ := hrel
                      have hmany := exX_many (hsN N) j
                      have hbq : Below wq.heap.size wq wr := hTj.below
                      obtain ⟨XA2, xc2, YA2, yc2, rfl, rfl⟩ := hTj.forms
                      have HT := Lib.hid hTj
                      have HPr := Lib.hid (HPm.out.below hbq)
                      have q0 := HPr.out.c0
                      have q1 := HPr.out.c1
                      clear hTj
                      have hel := exX_len (hsN N) j
                      rw [HHL.out] at hel
                      by_cases hlt : (exX (hsN N) j).length < n
                      · have HMr := Lib.hid (map_keep HMm.out (hbq.block _ (by have := HMg.out; omega)))
                        have hyl := yyL_len col x (fillN (hsN N) j).length
                        rw [HCm.out] at hyl
                        have hyl1 : (yyL col x (fillN (hsN N) j).length).length ≤ 4194304 := by omega
                        have hat := Sn_at (hsN N) (j + 1) (hsN N).length (Nat.le_refl _)
                        rw [List.take_length, HHL.out] at hat
                        by_cases hmem : (j + 1) ∈ hsN N
                        · rw [decide_eq_true hmem] at hat
                          have hlk := look_bool HMr.out (x := j + 1) (by omega) hat
                          have HXE := Lib.hid (exX_held hmem)
                          have HYE := Lib.hid (fill_len_held hmem)
                          clear hat hmem hyl hel
                          have hlk2 := hlk
                          push_cast at hlk2
                          generalize hXX : exX (hsN N) j = X at *
                          generalize hYY : yyL col x (fillN (hsN N) j).length = Y at *
                          have HYY2 := Lib.hid hYY
                          clear hYY
                          go_wp2_with fail
                          go_roundw
                          case rel => exact ⟨j + 1, by go_num, by rw [HXE.out]; exact hjl, by rw [HXE.out, HYE.out, HYY2.out]; exact HT.out⟩
                          case measure => simp [intOf]; omega
                        · rw [decide_eq_false hmem] at hat
                          have hlk := look_bool HMr.out (x := j + 1) (by omega) hat
                          have HXE := Lib.hid (exX_new hmem)
                          have HYE := Lib.hid (fill_len_new hmem)
                          have HYS := Lib.hid (yyL_succ col x (fillN (hsN N) j).length)
                          clear hat hmem hyl hel
                          have hlk2 := hlk
                          push_cast at hlk2
                          have hxl1 : (exX (hsN N) j).length ≤ 4194304 := by omega
                          generalize hXX : exX (hsN N) j = X at *
                          generalize hYY : yyL col x (fillN (hsN N) j).length = Y at *
                          clear hYY
                          go_wp2_with (first
                            | (at_builtin; refine app_two rfl (.tmp 119) (.tmp 121) rfl (w0 := wq) (base := wq.heap.size) (lo := wq.heap.size) (X := X) (Y := Y) (y := j + 1) rfl rfl (HT.out.alloc _) (lit1_at _ _ (j + 1) rfl) hxl1 ?_; intro v10 w10 hT10; obtain ⟨X10, x10c, Y10, y10c, rfl, -⟩ := hT10.forms; have HT10 := Lib.hid hT10; clear hT10)
                            | (at_builtin; refine app_two rfl (.tmp 123) (.tmp 124) rfl (w0 := wq) (base := wq.heap.size) (lo := wq.heap.size) (X := Y) (Y := X ++ [j + 1]) (y := 0) rfl rfl (HT10.out.swap.alloc _) (lit1_at _ _ 0 rfl) hyl1 ?_; intro v11 w11 hT11; obtain ⟨Y11, y11c, X11, x11c, rfl, -⟩ := hT11.forms; have HT11 := Lib.hid hT11.swap; clear hT11))
                          go_roundw
                          case rel => exact ⟨j + 1, by go_num, by rw [HXE.out, List.length_append]; simp; omega, by rw [HXE.out, HYE.out, HYS.out]; have h1 := HT11.out; simp only [List.length_append, List.length_cons, List.length_nil] at h1; exact h1⟩
                          case measure => simp [intOf]; omega
                      · have hxn : (exX (hsN N) j).length = n := by omega
                        have hjp : j < p := by omega
                        have hfc : (fillN (hsN N) j).length = cF := by omega
                        rw [hfc] at HT
                        rw [hfc]
                        have hfn : N.length + 1 + (fillN (hsN N) j).length = n := by rw [HNL.out, hfc]; omega
                        have HDj := Lib.hid (fun y => HDm.out j y hjp hfn)
                        rw [hfc, HYm.out cF] at HDj
                        have HXPj := Lib.hid (HXP.out j hjp)
                        have hyl := yyL_len col x cF
                        rw [HCm.out] at hyl
                        have hTl := HT.out.lists
                        have hTg := HT.out.ge
                        have HRr := Lib.hid (HR.out.below hbq)
                        have hbr2 : Below g wq wr := hbq.mono hgm
                        have HFX := Lib.hid (far_new (lo := 0) HR.out (F := XA2) (fun b off e => (hTg.1 b off e).1))
                        have HFY := Lib.hid (far_new (lo := 0) HR.out (F := YA2) (fun b off e => (hTg.2 b off e).1))
                        have HXL := Lib.hid (fun b off e => (hTg.1 b off e).2)
                        have HYL := Lib.hid (fun b off e => (hTg.2 b off e).2)
                        have HNX := Lib.hid hTl.1
                        have HOX := Lib.hid hTl.2.1
                        have HNY := Lib.hid hTl.2.2.1
                        have HOY := Lib.hid hTl.2.2.2
                        rw [HTL.out] at HFX HFY
                        clear hTl hTg hfn hel hmany
                        generalize hXX : exX (hsN N) j = X at *
                        generalize hYY : yyL col x cF = Y at *
                        have HXN := Lib.hid hxn
                        have HYN := Lib.hid hyl
                        clear hXX hYY hyl hxn hfc
                        obtain ⟨ws, hws⟩ : ∃ ws : World, ws = wr := ⟨_, rfl⟩
                        rw [← hws] at HRr HNX HNY HXL HYL HPr hbr2
                        rw [← hws]
                        clear hws q0 q1
                        have q1 := HPr.out.c1
                        have HRS : Hid (Rows2 ws g (.slice (some ⟨g, 0, none⟩) t t) H (stepT p f T 0)) := by rw [stepT_zero]; exact HRr.out
                        have hgs : g ≤ ws.heap.size := Nat.le_trans hgm hbr2.size
                        go_wp2_with fail
                        go_loopw [128] (fun i wr => ∃ (s : Nat) (H : List HV), s ≤ t ∧ i = .int .i64 s ∧ Rows2 wr g (.slice (some ⟨g, 0, none⟩) t t) H (stepT p f T s) ∧ FarF XA2 (.slice (some ⟨g, 0, none⟩) t t) H t ∧ FarF YA2 (.slice (some ⟨g, 0, none⟩) t t) H t ∧ NatsAt wr XA2 X ∧ NatsAt wr YA2 Y ∧ Below g ws wr) (fun i _ => t - (intOf i).toNat)
                        case atStart => exact ⟨0, H, Nat.zero_le _, rfl, HRS.out, HFX.out, HFY.out, HNX.out, HNY.out, Below.refl _ _⟩
                        case round =>
                          obtain ⟨s, H2, hs, rfl, hR, hFX, hFY, hNX, hNY, hbs⟩ := hrel
                          have hlw := hbs.size
                          have HSZ := Lib.hid hbs.size
                          have HPs : Hid (PlanCell wr w.heap.size p n t) := Lib.hid (HPr.out.keep (hbs.block _ (by omega)))
                          by_cases hst : s < t
                          · have hsS : s < (stepT p f T s).length := by rw [stepT_len, HTL.out]; exact hst
                            have hHl : H2.length = t := by rw [hR.len, stepT_len, HTL.out]
                            obtain ⟨g2, c2, RB, rc, hv, hv2, hg2, hbg, g1, g2c, gf⟩ := hR.slot hsS
                            injection hv with ev1 ev2 ev3
                            injection ev1 with ev1
                            injection ev1 with ev1
                            subst ev1
                            have HROW := Lib.hid (hR.row s hsS)
                            have HSUC := Lib.hid (stepT_succ (p := p) (f := f) (T := T) (k := s) (by rw [HTL.out]; exact hst))
                            obtain ⟨e1, e2⟩ := stepT_at (p := p) (f := f) (T := T) (k := s) (j := s) (by rw [HTL.out]; exact hst)
                            rw [if_neg (by omega)] at e2
                            obtain ⟨e3, e4⟩ := HTA.out s hst
                            have hvk : (vN T s).length = m := by rw [e4]; simp
                            rw [hv2] at HROW
                            have HV2 := Lib.hid hv2
                            have gf1 := gf (s * 2 + 1)
                            have hR' : Rows2 wr g (.slice (some ⟨g, 0, none⟩) H2.length t) H2 (stepT p f T s) := by rw [hHl]; exact hR
                            have HR' := Lib.hid hR'
                            rw [e2] at HROW g2c
                            rw [e1, e2, e3] at HSUC
                            have HE := Lib.hid (And.intro e1 e2)
                            have HE3 := Lib.hid e3
                            obtain ⟨d1, d2⟩ := HDj.out (s + 1)
                            have HIT := Lib.hid (fun (W : World) (h1 : NatsAt W XA2 X) (h2 : NatsAt W YA2 Y) => refInterpolate_any p XA2 YA2 X Y xc2 yc2 (s + 1) W HPN.out.pr (by omega) h1 HOX.out h2 HXPj.out HCPm.out (by rw [HXN.out]; omega) (by rw [HYN.out]; omega) (by omega))
                            rw [d1, d2] at HIT
                            generalize hL : vN T s = L at *
                            have HLL := Lib.hid hL
                            generalize evN p f (s + 1) = y at *
                            push_cast at HIT
                            have HGB := Lib.hid (fun (w4 W w5 : World) (h1 : Below wr.heap.size wr w4) (h2 : Below w4.heap.size w4 W) (h3 : W.grownBy w5 (Value.slice RB L.length rc).ownBlock) => grown_blk (g := g) hg2 h1 h2 h3 (fun e => HR'.out.no s hsS g (by rw [HV2.out, HE.out.2]; exact e.symm) rfl))
                            have HFX2 := Lib.hid hFX
                            have HFY2 := Lib.hid hFY
                            have HNX2 := Lib.hid hNX
                            have HNY2 := Lib.hid hNY
                            have q0 := HPs.out.c0
                            have i1 : (0 : Int) ≤ (s : Int) := by omega
                            have i2 : (s : Int) < (t : Int) := by omega
                            have hln : L.length ≤ 2048 := by omega
                            have HHL2 := Lib.hid hHl
                            clear hvk hHl hR hR' hFX hFY hNX hNY hL e1 e2 e3 e4 d1 d2 hv2 gf ev2 ev3
                            go_wp2_with fail
                            refine ret_below (HIT.out _ HNX2.out HNY2.out) ?_
                            intro w12 hb12
                            have m2 := (hb12.cell (p := ⟨g, s * 2 + 1, none⟩) hg2).trans g2c
                            have lg12 : g < w12.heap.size := Nat.lt_of_lt_of_le hg2 hb12.size
                            have hb12' : g ≤ w12.heap.size := Nat.le_of_lt lg12
                            have HRW := Lib.hid (own_below HROW.out hb12)
                            go_wp2_with (at_builtin; refine Hid.out ?_)
                            refine Lib.hid ?_
                            refine app_nats_at rfl (.tmp 147) (.tmp 149) rfl (base := g) (S := L) (T := [y]) rfl (HRW.out.alloc _) rfl ((lit1_at _ _ y rfl).nats.news rfl) (by simp; omega) (by simp; omega) ?_
                            intro v13 w13 hown13 hg13 hbW13 hat13
                            obtain ⟨A13, c13, rfl, -, -, -⟩ := own_sl hown13 rfl
                            have hl13 : (L ++ [y]).length = L.length + 1 := by simp
                            rw [hl13] at hown13 hat13
                            rw [hl13]
                            obtain ⟨g13, rfl, -, -⟩ := own_one hown13 (Nat.succ_pos _)
                            have hblk := HGB.out _ _ _ hb12 (below_alloc w12 _) hg13
                            have n2 : w13.cell? ⟨g, s * 2 + 1, none⟩ = some (.slice RB L.length rc) := (World.cell?_of_block (w := wr) hblk).trans g2c
                            have n3 : w13.frozen? ⟨g, s * 2 + 1, none⟩ = false := (frozen_of_block hblk).trans gf1
                            have hXlt : ∀ bF off, XA2 = some ⟨bF, off, none⟩ → bF < wr.heap.size := fun bF off e => Nat.lt_of_lt_of_le (HXL.out bF off e) HSZ.out
                            have hYlt : ∀ bF off, YA2 = some ⟨bF, off, none⟩ → bF < wr.heap.size := fun bF off e => Nat.lt_of_lt_of_le (HYL.out bF off e) HSZ.out
                            have hb45 : Below g w12 w13 := ((below_alloc w12 _).mono hb12').trans hbW13
                            have hfx : FarF XA2 (.slice (some ⟨g, 0, none⟩) H2.length t) H2 (stepT p f T s).length := by rw [stepT_len, HTL.out, HHL2.out]; exact HFX2.out
                            have hfy : FarF YA2 (.slice (some ⟨g, 0, none⟩) H2.length t) H2 (stepT p f T s).length := by rw [stepT_len, HTL.out, HHL2.out]; exact HFY2.out
                            have hat14 : (hvAt H2 s).2.ownBlock = some g13 ∨ g13 = (w12.alloc (.cells #[.int .i64 (y : Int)] 3)).heap.size := by
                              rw [HV2.out, HE.out.2]
                              rcases hat13 with e | e
                              · exact .inl (e.symm.trans rfl).symm.symm
                              · exact .inr (Option.some.inj e)
                            have hown14 : w13.ownsRow g 3 1 (.slice (some ⟨g13, 0, none⟩) ((vN (stepT p f T s) s).length + 1) c13) ((vN (stepT p f T s) s).length + 1) (valsN (vN (stepT p f T s) s ++ [y])) := by rw [HE.out.2]; exact hown13
                            have hg14 : (w12.alloc (.cells #[.int .i64 (y : Int)] 3)).grownBy w13 (hvAt H2 s).2.ownBlock := by rw [HV2.out, HE.out.2]; exact hg13
                            obtain ⟨-, n4, n5, n6, n7⟩ := deal_next (d := w.heap.size) (F := XA2) hgw (by omega) HR'.out hsS hfx HNX2.out hXlt hb12 (below_alloc w12 _) hown14 hg14 hat14 hb45
                            obtain ⟨-, -, n8, n9, -⟩ := deal_next (d := w.heap.size) (F := YA2) hgw (by omega) HR'.out hsS hfy HNY2.out hYlt hb12 (below_alloc w12 _) hown14 hg14 hat14 hb45
                            rw [HE.out.1, HE.out.2, HE3.out, ← HSUC.out, HHL2.out] at n4
                            rw [HE.out.2, stepT_len, HTL.out, HHL2.out] at n5 n8
                            rw [HE.out.2] at n6 n7 n9
                            have HN4 := Lib.hid n4
                            have HN5 := Lib.hid n5
                            have HN6 := Lib.hid n6
                            have HN7 := Lib.hid (hbs.trans n7)
                            have HN8 := Lib.hid n8
                            have HN9 := Lib.hid n9
                            clear n4 n5 n6 n7 n8 n9 hown13 hg13 hat13 hown14 hg14 hat14 hfx hfy hXlt hYlt hb45 hblk
                            go_wp2_with fail
                            go_roundw
                            case rel => exact ⟨s + 1, _, by omega, by go_num, HN4.out, HN5.out, HN8.out, HN6.out, HN9.out, HN7.out⟩
                            case measure => simp [intOf]; omega
                          · obtain rfl : s = t := by omega
                            have hfin : Rows2 wr g (.slice (some ⟨g, 0, none⟩) s s) H2 (stepT p f T T.length) := by rw [HTL.out]; exact hR
                            rw [HSTm.out] at hfin
                            have HFIN := Lib.hid (And.intro hfin (hbm.trans (hbr2.trans hbs)))
                            clear hfin hR hFX hFY hNX hNY
                            go_wp2_with fail
                            go_roundw
                            case rel =>
                              repeat (apply Exists.intro)
                              refine And.intro ?_ rfl
                              exact ⟨m + 1, _, by omega, by go_num, HFIN.out.1, HFIN.out.2⟩
                            case measure => simp [intOf]; omega
                  · obtain rfl : m = sec.length := by omega
                    obtain ⟨XR, cx, ev, hXR⟩ := HR.out.read
                    rw [exT_len] at ev
                    injection ev with ev1 ev2 ev3
                    subst ev1; subst ev3
                    have hX2 : ShP (fun b => w.heap.size ≤ b) wr (some ⟨g, 0, none⟩) t (shL (xpM p n t N SN)) := by rw [HXM.out, HS1.out]; exact hXR.mono (fun b _ hb => by omega)
                    have HX := Lib.hid hX2
                    have HBF := Lib.hid (hbwr.trans (hbm.mono (by omega)))
                    clear hXR hX2
                    go_wp2_with fail
                    go_ret2
                    exact ⟨_, t, by rw [shL_len, xpM_len]; rfl, HX.out, HBF.out⟩

    · obtain ⟨b, off, B0, c0, rfl, hb0, -, q0, q1, -⟩ := HS.out.at_ 0 h0
      rw [Nat.zero_mul, Nat.add_zero] at q1
      have g0 : (0 : Int) < (S.length : Int) := by omega
      clear q0
      by_cases hsl : (vS S 0).length = sec.length
      · have hln : S.length = 0 ∨ (vS S 0).length = sec.length := .inr hsl
        have HLN := Lib.hid hln
        have t0 : (((vS S 0).length : Int) != (sec.length : Int)) = false := by simp; omega
        have HZ := Lib.hid (show S.length = S.length from rfl)
        clear hln hsl
        cases hin : inside p sec with
        | false =>
          have he := xpE_in (p := p) (n := n) (h := h) HGT.out HLN.out hin
          rw [xpL_no (by rw [he]; decide), he]
          rw [hin] at HES
          clear he hin
          go_enter Tryd.func48, Tryd.ntmps48
          go_wp2_with fail
          refine ret_below HVAL.out ?_
          intro w1 hb1
          have hbw1 := below_trans (below_alloc _ _) hb1
          have HP1 := Lib.hid ((PlanCell.new (w := w) p n h rfl).below hb1)
          have p0 := HP1.out.c0
          have p1 := HP1.out.c1
          have p2 := HP1.out.c2
          go_wp2_with fail
          refine ret_below (HGD.out _ hbw1) ?_
          intro w2 hb2
          have hbw2 := below_trans hbw1 hb2
          have HP2 := Lib.hid (HP1.out.below hb2)
          clear p0 p1 p2
          have p0 := HP2.out.c0
          have p1 := HP2.out.c1
          have p2 := HP2.out.c2
          have u1 := (hbw2.cell (p := ⟨b, off + 1, none⟩) hb0).trans q1
          go_wp2_with fail
          refine ret_pure (HES.out _ hbw2) ?_
          go_wp2_with fail
          go_ret2
          exact ShErr.nil _ hbw2
        | true =>
          rw [hin] at HES
          by_cases hfew : n ≤ S.length
          · have he := xpE_few (p := p) (n := n) (h := h) HGT.out HLN.out hin (.inl hfew)
            rw [xpL_no (by rw [he]; decide), he]
            have f1 : (n : Int) ≤ (S.length : Int) := by omega
            clear he hin
            go_enter Tryd.func48, Tryd.ntmps48
            go_wp2_with fail
            refine ret_below HVAL.out ?_
            intro w1 hb1
            have hbw1 := below_trans (below_alloc _ _) hb1
            have HP1 := Lib.hid ((PlanCell.new (w := w) p n h rfl).below hb1)
            have p0 := HP1.out.c0
            have p1 := HP1.out.c1
            have p2 := HP1.out.c2
            go_wp2_with fail
            refine ret_below (HGD.out _ hbw1) ?_
            intro w2 hb2
            have hbw2 := below_trans hbw1 hb2
            have HP2 := Lib.hid (HP1.out.below hb2)
            clear p0 p1 p2
            have p0 := HP2.out.c0
            have p1 := HP2.out.c1
            have p2 := HP2.out.c2
            have u1 := (hbw2.cell (p := ⟨b, off + 1, none⟩) hb0).trans q1
            go_wp2_with fail
            refine ret_pure (HES.out _ hbw2) ?_
            go_wp2_with fail
            go_ret2
            exact ShErr.nil _ hbw2
          by_cases hbig : 2048 < sec.length
          · have he := xpE_few (p := p) (n := n) (h := h) HGT.out HLN.out hin (.inr hbig)
            rw [xpL_no (by rw [he]; decide), he]
            have f0 : ¬ ((n : Int) ≤ ((S.length : Nat) : Int)) := by omega
            have f1 : (2048 : Int) < (sec.length : Int) := by omega
            clear he hin
            go_enter Tryd.func48, Tryd.ntmps48
            go_wp2_with fail
            refine ret_below HVAL.out ?_
            intro w1 hb1
            have hbw1 := below_trans (below_alloc _ _) hb1
            have HP1 := Lib.hid ((PlanCell.new (w := w) p n h rfl).below hb1)
            have p0 := HP1.out.c0
            have p1 := HP1.out.c1
            have p2 := HP1.out.c2
            go_wp2_with fail
            refine ret_below (HGD.out _ hbw1) ?_
            intro w2 hb2
            have hbw2 := below_trans hbw1 hb2
            have HP2 := Lib.hid (HP1.out.below hb2)
            clear p0 p1 p2
            have p0 := HP2.out.c0
            have p1 := HP2.out.c1
            have p2 := HP2.out.c2
            have u1 := (hbw2.cell (p := ⟨b, off + 1, none⟩) hb0).trans q1
            go_wp2_with fail
            refine ret_pure (HES.out _ hbw2) ?_
            go_wp2_with fail
            go_ret2
            exact ShErr.nil _ hbw2
          have he := xpE_ok (p := p) (n := n) (h := h) HGT.out HLN.out hin (fun e => e.elim (fun e => by have := HZ.out; omega) hbig)
          rw [xpL_ok he, he]
          obtain ⟨hSN, hg⟩ := gd_nat (gdB_of HGT.out)
          obtain ⟨e1, e2⟩ := inside_nat hin
          have hs1 : (sec.map Int.toNat).length = sec.length := by simp
          have hSNl : (sec.map Int.toNat).length ≤ 2048 := by omega
          have hAn : NatsAt w B (sec.map Int.toNat) := IntsAt.nats (by rw [e1]; exact HI.out)
          have HAN := Lib.hid hAn
          have HG := Lib.hid hg
          have HSP := Lib.hid e2
          have HS1 := Lib.hid hs1
          have hNl : (natL S).length = S.length := by have h1 := natL_len S; have h2 := HZ.out; omega
          have HNL := Lib.hid hNl
          have HVL := Lib.hid (show ∀ k, k < (natL S).length → (vN (natL S) k).length = sec.length from fun k hk => by
            have hk' : k < S.length := by rw [natL_len] at hk; exact hk
            have h1 := hg.len k hk
            have h2 : (vN (natL S) 0).length = (vS S 0).length := by
              conv => rhs; rw [hSN]
              rw [vS_shL, len_ofN]
            rw [h1, h2]
            exact HLN.out.resolve_left (by omega))
          have HNS : Hid (ShP P0 w (some ⟨b, off, none⟩) ca (shL (natL S))) := by rw [← hSN]; exact HS.out
          have hf0 : ¬ ((n : Int) ≤ ((S.length : Nat) : Int)) := by omega
          have hf1 : ¬ ((2048 : Int) < (sec.length : Int)) := by omega
          have hnl2 : S.length + 1 ≤ n := by omega
          have hhl : (hsN (natL S)).length = S.length := by rw [hsN_len]; exact hNl
          have HHR := Lib.hid (show ∀ x ∈ hsN (natL S), x ≤ 4294967296 from fun x hx => by have := hs_rng hg x hx; omega)
          have HXLT := Lib.hid (show ∀ x ∈ hsN (natL S), x < p from fun x hx => by have := hs_rng hg x hx; omega)
          have HPO := Lib.hid (fun (i : Nat) (hi : i < sec.length) (W : World) (hb : Below w.heap.size w W) => points_any (some ⟨b, off, none⟩) ca (natL S) i W (HNS.out.below hb) (by rw [HNL.out]; omega) (fun k hk => by rw [HVL.out k hk]; exact hi) (by omega))
          rw [hNl] at HPO
          have HHL := Lib.hid hhl
          have hcl : ∀ i, (colN (natL S) i).length = S.length := fun i => by rw [colN_len]; exact hNl
          have HCL := Lib.hid hcl
          have HHN := Lib.hid (fun k (hk : k < (natL S).length) => hsN_nth hk)
          have hmk : h ≤ 1000 := by omega
          have HCP := Lib.hid (fun e => exY_lt (K := natL S) (sec := sec.map Int.toNat) (c := n - 1 - (natL S).length) (e := e) (p := p) (by omega) (fun k hk => (hg.rng k hk).2.2) e2)
          have HDX : Hid (∀ j e x, j < p → (natL S).length + 1 + (fillN (hsN (natL S)) j).length = n → itE (exX (hsN (natL S)) j) (exY (natL S) (sec.map Int.toNat) (fillN (hsN (natL S)) j).length e) = 0 ∧ itV p (exX (hsN (natL S)) j) (exY (natL S) (sec.map Int.toNat) (fillN (hsN (natL S)) j).length e) x = evN p (exF p (hsN (natL S) ++ [0] ++ fillM (hsN (natL S)) (n - 1 - (natL S).length)) (exY (natL S) (sec.map Int.toNat) (n - 1 - (natL S).length)) e) x) := Lib.hid (fun j e x hj hf => by
            have h1 : (fillN (hsN (natL S)) j).length = n - 1 - (natL S).length := by omega
            have h2 := expl_it HPN.out hg e2 hj e x
            rw [fillM_of h1, ← h1]
            exact h2)
          clear he hin hbig hSN hg e1 e2 hs1 hAn hNl hhl hcl HS HI HZ HLN HGT
          generalize sec.map Int.toNat = SN at *
          generalize natL S = N at *
          have HXP : Hid (∀ j, j < p → ∀ y ∈ exX (hsN N) j, y < p) := Lib.hid (fun j hj => exX_lt HXLT.out hj)
          have HYY : Hid (∀ e c, exY N SN c e = yyL (colN N e) (nthN SN e) c) := Lib.hid (fun e c => rfl)
          obtain ⟨cF, hcF⟩ : ∃ cF, cF = n - 1 - N.length := ⟨_, rfl⟩
          have hxm : xpM p n h N SN = exT p h SN.length (exF p (hsN N ++ [0] ++ fillM (hsN N) cF) (exY N SN cF)) := by rw [hcF]; rfl
          have HXM := Lib.hid hxm
          rw [← hcF] at HCP HDX
          have hcF1 : cF + (S.length + 1) = n := by rw [HNL.out] at hcF; omega
          clear hxm hcF
          generalize exF p (hsN N ++ [0] ++ fillM (hsN N) cF) (exY N SN cF) = FF at *
          go_enter Tryd.func48, Tryd.ntmps48
          go_wp2_with fail
          refine ret_below HVAL.out ?_
          intro w1 hb1
          have hbw1 := below_trans (below_alloc _ _) hb1
          have HP1 := Lib.hid ((PlanCell.new (w := w) p n h rfl).below hb1)
          have p0 := HP1.out.c0
          have p1 := HP1.out.c1
          have p2 := HP1.out.c2
          go_wp2_with fail
          refine ret_below (HGD.out _ hbw1) ?_
          intro w2 hb2
          have hbw2 := below_trans hbw1 hb2
          have HP2 := Lib.hid (HP1.out.below hb2)
          clear p0 p1 p2
          have p0 := HP2.out.c0
          have p1 := HP2.out.c1
          have p2 := HP2.out.c2
          have u1 := (hbw2.cell (p := ⟨b, off + 1, none⟩) hb0).trans q1
          go_wp2_with fail
          refine ret_pure (HES.out _ hbw2) ?_
          have hmm := @run_makeMap Tryd.prog
          go_wp2_with fail
          refine gen_world fun w4 hw4 => ?_
          have hbw4 : Below w2.heap.size w2 w4 := by rw [hw4]; exact below_alloc _ _
          have HM4 : Hid (w4.ownsMap Tryd.prog 3 (plainElem Tryd.prog 4) w2.heap.size 0 (Sn (H := Unit) (hsN N) 0)) := Lib.hid (by rw [hw4, Sn_zero]; exact World.ownsMap_made _ _ _ _)
          clear hw4 p0 p1 p2
          have hwb : w.heap.size < w2.heap.size := HP2.out.lt
          go_loopw [65] (fun i wr => ∃ k : Nat, k ≤ S.length ∧ i = .int .i64 k ∧ wr.ownsMap Tryd.prog 3 (plainElem Tryd.prog 4) w2.heap.size k (Sn (H := Unit) (hsN N) k) ∧ Below w2.heap.size w2 wr) (fun i _ => S.length - (intOf i).toNat)
          case atStart => exact ⟨0, Nat.zero_le _, rfl, HM4.out, hbw4⟩
          case round =>
            obtain ⟨k, hk, rfl, hown, hbr⟩ := hrel
            have HM := Lib.hid hown
            clear hown
            have hbwr := below_trans hbw2 hbr
            have hszr := hbr.size
            by_cases hlt : k < S.length
            · obtain ⟨kb, ko, KB, kc, hkA, hkb, -, k0, k1, -, -⟩ := (HNS.out.below hbwr).nat (show k < N.length by rw [HNL.out]; exact hlt)
              have hkN := HHN.out k (by rw [HNL.out]; exact hlt)
              have hkr := HHR.out _ (nthN_mem (show k < (hsN N).length by rw [HHL.out]; exact hlt))
              have HSN := Lib.hid (Sn_succ (H := Unit) (hsN N) k (by rw [HHL.out]; exact hlt))
              rw [hkN] at HSN hkr
              generalize hN N k = xh at *
              have hkey : keyOf Tryd.prog 3 (.int .i64 (xh : Nat)) = some (keyL xh) := Maps.keyOf_int_mk Tryd.underlying3 (wf_i64 (by omega) (by omega))
              have HKY := Lib.hid hkey
              have hml : k < 1048576 := by omega
              clear hkN hkey
              obtain ⟨rfl, rfl⟩ : b = kb ∧ off = ko := by injection hkA with e; injection e with e3 e4; exact ⟨e3, e4⟩
              go_wp2_with (first
                | (at_mapUpdate; refine wpList_mapUpdate_own _ rfl _ _ _ 89 rfl 3 4 lawI Tryd.underlying89 (plainElem (H := Unit) Tryd.prog 4) w2.heap.size k _ rfl (HM.out.alloc _) (by unfold maxLen; omega) _ _ _ rfl rfl HKY.out _ [] (plainElem_bool Tryd.underlying4 true) ?_; intro w5 hown5 hgrow5)
                | go_in)
              have HN5 := Lib.hid (And.intro hown5 ((hbr.trans ((below_alloc wr _).mono hszr)).grown hgrow5 (Nat.le_trans hszr (below_alloc wr _).size) (fun j hj => by cases hj; exact Nat.le_refl _)))
              clear hown5 hgrow5
              go_roundw
              case rel => exact ⟨k + 1, by omega, by go_num, by rw [HSN.out]; exact HN5.out.1, HN5.out.2⟩
              case measure => simp [intOf]; omega
            · obtain rfl : k = S.length := by omega
              obtain ⟨w4', hw4'⟩ : ∃ w4' : World, w4' = wr := ⟨_, rfl⟩
              rw [← hw4'] at HM hbr hbwr hszr
              rw [← hw4']
              clear hw4' HM4 hbw4
              have HP4 := Lib.hid (HP2.out.below hbr)
              have p2 := HP4.out.c2
              have hml := HM.out.lt
              go_wp2_with fail
              refine gen_world fun w5 hw5 => ?_
              have hb5 : Below w4'.heap.size w4' w5 := by rw [hw5]; exact below_alloc _ _
              have HO5 : Hid (HvOwn w5 w4'.heap.size (.slice (some ⟨w4'.heap.size, 0, none⟩) h h) (hhL h 0)) := Lib.hid (by rw [hw5, ← hhL_zero]; exact own_made _ _ (by omega))
              clear hw5 p2
              obtain ⟨g, hg⟩ : ∃ g, g = w4'.heap.size := ⟨_, rfl⟩
              rw [← hg] at HO5 hb5 hml
              rw [← hg]
              have hgw : w.heap.size < g := by omega
              have hgE1 : g ≤ w4'.heap.size := by omega
              have hgE2 : w4'.heap.size ≤ g := by omega
              clear hg
              have HMg := Lib.hid hml
              go_wp2_with fail
              go_loopw [78] (fun i wr => ∃ k : Nat, k ≤ h ∧ i = .int .i64 k ∧ HvOwn wr g (.slice (some ⟨g, 0, none⟩) h h) (hhL h k) ∧ Below g w4' wr) (fun i _ => h - (intOf i).toNat)
              case atStart => exact ⟨0, Nat.zero_le _, rfl, HO5.out, hb5⟩
              case round =>
                obtain ⟨t, ht, rfl, hown, hbt⟩ := hrel
                have HO := Lib.hid hown
                clear hown
                by_cases htl : t < h
                · obtain ⟨g2, c2, hv, hg2, -, -, -, hcell, hfr⟩ := HO.out.form (by rw [hhL_len]; omega)
                  injection hv with ev1 ev2 ev3
                  injection ev1 with ev1
                  injection ev1 with ev1
                  subst ev1
                  obtain ⟨x0, x1⟩ := hcell t (by rw [hhL_len]; exact htl)
                  have xf := hfr (t * 2)
                  have i1 : (0 : Int) ≤ (t : Int) := by omega
                  have i2 : (t : Int) < (h : Int) := by omega
                  clear hcell hfr ev2 ev3
                  go_wp2_with fail
                  have hst := HO.out
                  rw [show (Value.slice (some ⟨g, 0, none⟩) h h) = .slice (some ⟨g, 0, none⟩) (hhL h t).length h by rw [hhL_len]] at hst
                  have hst2 := hst.set0 t (by rw [hhL_len]; exact htl) ((t : Int) + 1)
                  rw [hhL_len, hhL_succ htl] at hst2
                  have HST := Lib.hid hst2
                  clear hst hst2 x0 x1 xf
                  go_roundw
                  case rel => exact ⟨t + 1, by omega, by go_num, HST.out, hbt.setCell (p := ⟨g, t * 2, none⟩) (Nat.le_refl _) _⟩
                  case measure => simp [intOf]; omega
                · obtain rfl : t = h := by omega
                  have HR0 := Lib.hid (rows_hh HO.out)
                  obtain ⟨w6, hw6⟩ : ∃ w6 : World, w6 = wr := ⟨_, rfl⟩
                  rw [← hw6] at HR0 hbt
                  rw [← hw6]
                  clear hw6 HO HO5 hb5
                  have HR1 : Hid (Rows2 w6 g (.slice (some ⟨g, 0, none⟩) t t) (hhL t t) (exT p t 0 FF)) := by rw [exT_zero]; exact HR0.out
                  have hz6 := hbt.size
                  go_wp2_with fail
                  go_loopw [90] (fun i wr => ∃ (m : Nat) (H : List HV), m ≤ sec.length ∧ i = .int .i64 m ∧ Rows2 wr g (.slice (some ⟨g, 0, none⟩) t t) H (exT p t m FF) ∧ Below g w4' wr) (fun i _ => sec.length - (intOf i).toNat)
                  case atStart => exact ⟨0, _, Nat.zero_le _, rfl, HR1.out, hbt⟩
                  case round =>
                    obtain ⟨m, H, hm, rfl, hR, hbm⟩ := hrel
                    have HR := Lib.hid hR
                    clear hR HR0 HR1 hbt hz6
                    have hgm : g ≤ wr.heap.size := by have := (World.ownsRow.lt HR.out.out g rfl).2; omega
                    by_cases hml2 : m < sec.length
                    · obtain ⟨bA, oA, rfl, hbA, hcA⟩ := HAN.out m (by rw [HS1.out]; exact hml2)
                      have hbwm : Below w.heap.size w wr := hbwr.trans (hbm.mono (by omega))
                      have hcA2 := (hbwm.cell (p := ⟨bA, oA + m, none⟩) hbA).trans hcA
                      have hbAr : bA < wr.heap.size := Nat.lt_of_lt_of_le hbA hbwm.size
                      have HPm : Hid (PlanCell wr w.heap.size p n t) := Lib.hid (HP4.out.keep (hbm.block _ (by omega)))
                      have HMm := Lib.hid (map_keep HM.out (hbm.block _ HMg.out))
                      have HDm := Lib.hid (fun j x => HDX.out j m x)
                      have HYm := Lib.hid (fun c => HYY.out m c)
                      have HPm0 := Lib.hid (HPO.out m hml2)
                      have HCm := Lib.hid (HCL.out m)
                      have HCPm := Lib.hid (HCP.out m)
                      have HSTm := Lib.hid (exT_succ p t m FF)
                      have HTL := Lib.hid (exT_len p t m FF)
                      have HTA := Lib.hid (fun j (hj : j < t) => exT_at (p := p) (m := m) (F := FF) hj)
                      rw [HYm.out cF] at HCPm
                      generalize FF m = f at HDm HSTm
                      generalize colN N m = col at *
                      generalize nthN SN m = x at *
                      generalize exT p t m FF = T at *
                      obtain ⟨wq, hwq⟩ : ∃ wq : World, wq = wr := ⟨_, rfl⟩
                      rw [← hwq] at HR hbm hgm hbwm hcA2 hbAr HPm HMm
                      rw [← hwq]
                      clear hwq hcA
                      go_wp2_with fail
                      refine (HPm0.out wq hbwm).mono ?_
                      rintro e w7 ⟨XA, xc, YA, yc, rfl, hT7⟩
                      have HT7 := Lib.hid hT7
                      have hcl1 : col.length ≤ 4194304 := by rw [HCm.out]; omega
                      have hsl1 : (hsN N).length ≤ 4194304 := by rw [HHL.out]; omega
                      have HLX := Lib.hid (exX_zero' (hsN N))
                      have HLY := Lib.hid (yyL_zero col x)
                      clear hT7 hcA2
                      go_wp2_with (first
                        | (at_builtin; refine app_two rfl (.tmp 101) (.tmp 102) rfl (w0 := wq) (base := wq.heap.size) (lo := wq.heap.size) (X := hsN N) (Y := col) (y := 0) rfl rfl (HT7.out.alloc _) (lit1_at _ _ 0 rfl) hsl1 ?_; intro v8 w8 hT8; rw [HLX.out] at hT8; obtain ⟨X8, x8c, Y8, y8c, rfl, -⟩ := hT8.forms; have HT8 := Lib.hid hT8; clear hT8)
                        | (at_builtin; refine app_two rfl (.tmp 104) (.tmp 106) rfl (w0 := wq) (base := wq.heap.size) (lo := wq.heap.size) (X := col) (Y := exX (hsN N) 0) (y := x) rfl rfl (HT8.out.swap.alloc _) (lit1_at _ _ x rfl) hcl1 ?_; intro v9 w9 hT9; rw [HLY.out] at hT9; obtain ⟨Y9, y9c, X9, x9c, rfl, -⟩ := hT9.forms; have HT9 := Lib.hid hT9.swap; clear hT9))
                      go_loopw [15, 16, 17] (fun vx vy i wr => ∃ j : Nat, i = .int .i64 ((j : Int) + 1) ∧ (exX (hsN N) j).length ≤ n ∧ Two wq wr wq.heap.size wq.heap.size vx (exX (hsN N) j) vy (yyL col x (fillN (hsN N) j).length)) (fun _ _ i _ => n - (intOf i).toNat)
                      case atStart =>
                        refine ⟨0, rfl, ?_, HT9.out⟩
                        have h1 := exX_len (hsN N) 0
                        have h2 : (fillN (hsN N) 0).length = 0 := rfl
                        rw [HHL.out, h2] at h1; omega
                      case round =>
                        obtain ⟨j, rfl, hjl, hTj⟩ := hrel
                        have hmany := exX_many (hsN N) j
                        have hbq : Below wq.heap.size wq wr := hTj.below
                        obtain ⟨XA2, xc2, YA2, yc2, rfl, rfl⟩ := hTj.forms
                        have HT := Lib.hid hTj
                        have HPr := Lib.hid (HPm.out.below hbq)
                        have q0 := HPr.out.c0
                        have q1 := HPr.out.c1
                        clear hTj
                        have hel := exX_len (hsN N) j
                        rw [HHL.out] at hel
                        by_cases hlt : (exX (hsN N) j).length < n
                        · have HMr := Lib.hid (map_keep HMm.out (hbq.block _ (by have := HMg.out; omega)))
                          have hyl := yyL_len col x (fillN (hsN N) j).length
                          rw [HCm.out] at hyl
                          have hyl1 : (yyL col x (fillN (hsN N) j).length).length ≤ 4194304 := by omega
                          have hat := Sn_at (hsN N) (j + 1) (hsN N).length (Nat.le_refl _)
                          rw [List.take_length, HHL.out] at hat
                          by_cases hmem : (j + 1) ∈ hsN N
                          · rw [decide_eq_true hmem] at hat
                            have hlk := look_bool HMr.out (x := j + 1) (by omega) hat
                            have HXE := Lib.hid (exX_held hmem)
                            have HYE := Lib.hid (fill_len_held hmem)
                            clear hat hmem hyl hel
                            have hlk2 := hlk
                            push_cast at hlk2
                            generalize hXX : exX (hsN N) j = X at *
                            generalize hYY : yyL col x (fillN (hsN N) j).length = Y at *
                            have HYY2 := Lib.hid hYY
                            clear hYY
                            go_wp2_with fail
                            go_roundw
                            case rel => exact ⟨j + 1, by go_num, by rw [HXE.out]; exact hjl, by rw [HXE.out, HYE.out, HYY2.out]; exact HT.out⟩
                            case measure => simp [intOf]; omega
                          · rw [decide_eq_false hmem] at hat
                            have hlk := look_bool HMr.out (x := j + 1) (by omega) hat
                            have HXE := Lib.hid (exX_new hmem)
                            have HYE := Lib.hid (fill_len_new hmem)
                            have HYS := Lib.hid (yyL_succ col x (fillN (hsN N) j).length)
                            clear hat hmem hyl hel
                            have hlk2 := hlk
                            push_cast at hlk2
                            have hxl1 : (exX (hsN N) j).length ≤ 4194304 := by omega
                            generalize hXX : exX (hsN N) j = X at *
                            generalize hYY : yyL col x (fillN (hsN N) j).length = Y at *
                            clear hYY
                            go_wp2_with (first
                              | (at_builtin; refine app_two rfl (.tmp 119) (.tmp 121) rfl (w0 := wq) (base := wq.heap.size) (lo := wq.heap.size) (X := X) (Y := Y) (y := j + 1) rfl rfl (HT.out.alloc _) (lit1_at _ _ (j + 1) rfl) hxl1 ?_; intro v10 w10 hT10; obtain ⟨X10, x10c, Y10, y10c, rfl, -⟩ := hT10.forms; have HT10 := Lib.hid hT10; clear hT10)
                              | (at_builtin; refine app_two rfl (.tmp 123) (.tmp 124) rfl (w0 := wq) (base := wq.heap.size) (lo := wq.heap.size) (X := Y) (Y := X ++ [j + 1]) (y := 0) rfl rfl (HT10.out.swap.alloc _) (lit1_at _ _ 0 rfl) hyl1 ?_; intro v11 w11 hT11; obtain ⟨Y11, y11c, X11, x11c, rfl, -⟩ := hT11.forms; have HT11 := Lib.hid hT11.swap; clear hT11))
                            go_roundw
                            case rel => exact ⟨j + 1, by go_num, by rw [HXE.out, List.length_append]; simp; omega, by rw [HXE.out, HYE.out, HYS.out]; have h1 := HT11.out; simp only [List.length_append, List.length_cons, List.length_nil] at h1; exact h1⟩
                            case measure => simp [intOf]; omega
                        · have hxn : (exX (hsN N) j).length = n := by omega
                          have hjp : j < p := by omega
                          have hfc : (fillN (hsN N) j).length = cF := by omega
                          rw [hfc] at HT
                          rw [hfc]
                          have hfn : N.length + 1 + (fillN (hsN N) j).length = n := by rw [HNL.out, hfc]; omega
                          have HDj := Lib.hid (fun y => HDm.out j y hjp hfn)
                          rw [hfc, HYm.out cF] at HDj
                          have HXPj := Lib.hid (HXP.out j hjp)
                          have hyl := yyL_len col x cF
                          rw [HCm.out] at hyl
                          have hTl := HT.out.lists
                          have hTg := HT.out.ge
                          have HRr := Lib.hid (HR.out.below hbq)
                          have hbr2 : Below g wq wr := hbq.mono hgm
                          have HFX := Lib.hid (far_new (lo := 0) HR.out (F := XA2) (fun b off e => (hTg.1 b off e).1))
                          have HFY := Lib.hid (far_new (lo := 0) HR.out (F := YA2) (fun b off e => (hTg.2 b off e).1))
                          have HXL := Lib.hid (fun b off e => (hTg.1 b off e).2)
                          have HYL := Lib.hid (fun b off e => (hTg.2 b off e).2)
                          have HNX := Lib.hid hTl.1
                          have HOX := Lib.hid hTl.2.1
                          have HNY := Lib.hid hTl.2.2.1
                          have HOY := Lib.hid hTl.2.2.2
                          rw [HTL.out] at HFX HFY
                          clear hTl hTg hfn hel hmany
                          generalize hXX : exX (hsN N) j = X at *
                          generalize hYY : yyL col x cF = Y at *
                          have HXN := Lib.hid hxn
                          have HYN := Lib.hid hyl
                          clear hXX hYY hyl hxn hfc
                          obtain ⟨ws, hws⟩ : ∃ ws : World, ws = wr := ⟨_, rfl⟩
                          rw [← hws] at HRr HNX HNY HXL HYL HPr hbr2
                          rw [← hws]
                          clear hws q0 q1
                          have q1 := HPr.out.c1
                          have HRS : Hid (Rows2 ws g (.slice (some ⟨g, 0, none⟩) t t) H (stepT p f T 0)) := by rw [stepT_zero]; exact HRr.out
                          have hgs : g ≤ ws.heap.size := Nat.le_trans hgm hbr2.size
                          go_wp2_with fail
                          go_loopw [128] (fun i wr => ∃ (s : Nat) (H : List HV), s ≤ t ∧ i = .int .i64 s ∧ Rows2 wr g (.slice (some ⟨g, 0, none⟩) t t) H (stepT p f T s) ∧ FarF XA2 (.slice (some ⟨g, 0, none⟩) t t) H t ∧ FarF YA2 (.slice (some ⟨g, 0, none⟩) t t) H t ∧ NatsAt wr XA2 X ∧ NatsAt wr YA2 Y ∧ Below g ws wr) (fun i _ => t - (intOf i).toNat)
                          case atStart => exact ⟨0, H, Nat.zero_le _, rfl, HRS.out, HFX.out, HFY.out, HNX.out, HNY.out, Below.refl _ _⟩
                          case round =>
                            obtain ⟨s, H2, hs, rfl, hR, hFX, hFY, hNX, hNY, hbs⟩ := hrel
                            have hlw := hbs.size
                            have HSZ := Lib.hid hbs.size
                            have HPs : Hid (PlanCell wr w.heap.size p n t) := Lib.hid (HPr.out.keep (hbs.block _ (by omega)))
                            by_cases hst : s < t
                            · have hsS : s < (stepT p f T s).length := by rw [stepT_len, HTL.out]; exact hst
                              have hHl : H2.length = t := by rw [hR.len, stepT_len, HTL.out]
                              obtain ⟨g2, c2, RB, rc, hv, hv2, hg2, hbg, g1, g2c, gf⟩ := hR.slot hsS
                              injection hv with ev1 ev2 ev3
                              injection ev1 with ev1
                              injection ev1 with ev1
                              subst ev1
                              have HROW := Lib.hid (hR.row s hsS)
                              have HSUC := Lib.hid (stepT_succ (p := p) (f := f) (T := T) (k := s) (by rw [HTL.out]; exact hst))
                              obtain ⟨e1, e2⟩ := stepT_at (p := p) (f := f) (T := T) (k := s) (j := s) (by rw [HTL.out]; exact hst)
                              rw [if_neg (by omega)] at e2
                              obtain ⟨e3, e4⟩ := HTA.out s hst
                              have hvk : (vN T s).length = m := by rw [e4]; simp
                              rw [hv2] at HROW
                              have HV2 := Lib.hid hv2
                              have gf1 := gf (s * 2 + 1)
                              have hR' : Rows2 wr g (.slice (some ⟨g, 0, none⟩) H2.length t) H2 (stepT p f T s) := by rw [hHl]; exact hR
                              have HR' := Lib.hid hR'
                              rw [e2] at HROW g2c
                              rw [e1, e2, e3] at HSUC
                              have HE := Lib.hid (And.intro e1 e2)
                              have HE3 := Lib.hid e3
                              obtain ⟨d1, d2⟩ := HDj.out (s + 1)
                              have HIT := Lib.hid (fun (W : World) (h1 : NatsAt W XA2 X) (h2 : NatsAt W YA2 Y) => refInterpolate_any p XA2 YA2 X Y xc2 yc2 (s + 1) W HPN.out.pr (by omega) h1 HOX.out h2 HXPj.out HCPm.out (by rw [HXN.out]; omega) (by rw [HYN.out]; omega) (by omega))
                              rw [d1, d2] at HIT
                              generalize hL : vN T s = L at *
                              have HLL := Lib.hid hL
                              generalize evN p f (s + 1) = y at *
                              push_cast at HIT
                              have HGB := Lib.hid (fun (w4 W w5 : World) (h1 : Below wr.heap.size wr w4) (h2 : Below w4.heap.size w4 W) (h3 : W.grownBy w5 (Value.slice RB L.length rc).ownBlock) => grown_blk (g := g) hg2 h1 h2 h3 (fun e => HR'.out.no s hsS g (by rw [HV2.out, HE.out.2]; exact e.symm) rfl))
                              have HFX2 := Lib.hid hFX
                              have HFY2 := Lib.hid hFY
                              have HNX2 := Lib.hid hNX
                              have HNY2 := Lib.hid hNY
                              have q0 := HPs.out.c0
                              have i1 : (0 : Int) ≤ (s : Int) := by omega
                              have i2 : (s : Int) < (t : Int) := by omega
                              have hln : L.length ≤ 2048 := by omega
                              have HHL2 := Lib.hid hHl
                              clear hvk hHl hR hR' hFX hFY hNX hNY hL e1 e2 e3 e4 d1 d2 hv2 gf ev2 ev3
                              go_wp2_with fail
                              refine ret_below (HIT.out _ HNX2.out HNY2.out) ?_
                              intro w12 hb12
                              have m2 := (hb12.cell (p := ⟨g, s * 2 + 1, none⟩) hg2).trans g2c
                              have lg12 : g < w12.heap.size := Nat.lt_of_lt_of_le hg2 hb12.size
                              have hb12' : g ≤ w12.heap.size := Nat.le_of_lt lg12
                              have HRW := Lib.hid (own_below HROW.out hb12)
                              go_wp2_with (at_builtin; refine Hid.out ?_)
                              refine Lib.hid ?_
                              refine app_nats_at rfl (.tmp 147) (.tmp 149) rfl (base := g) (S := L) (T := [y]) rfl (HRW.out.alloc _) rfl ((lit1_at _ _ y rfl).nats.news rfl) (by simp; omega) (by simp; omega) ?_
                              intro v13 w13 hown13 hg13 hbW13 hat13
                              obtain ⟨A13, c13, rfl, -, -, -⟩ := own_sl hown13 rfl
                              have hl13 : (L ++ [y]).length = L.length + 1 := by simp
                              rw [hl13] at hown13 hat13
                              rw [hl13]
                              obtain ⟨g13, rfl, -, -⟩ := own_one hown13 (Nat.succ_pos _)
                              have hblk := HGB.out _ _ _ hb12 (below_alloc w12 _) hg13
                              have n2 : w13.cell? ⟨g, s * 2 + 1, none⟩ = some (.slice RB L.length rc) := (World.cell?_of_block (w := wr) hblk).trans g2c
                              have n3 : w13.frozen? ⟨g, s * 2 + 1, none⟩ = false := (frozen_of_block hblk).trans gf1
                              have hXlt : ∀ bF off, XA2 = some ⟨bF, off, none⟩ → bF < wr.heap.size := fun bF off e => Nat.lt_of_lt_of_le (HXL.out bF off e) HSZ.out
                              have hYlt : ∀ bF off, YA2 = some ⟨bF, off, none⟩ → bF < wr.heap.size := fun bF off e => Nat.lt_of_lt_of_le (HYL.out bF off e) HSZ.out
                              have hb45 : Below g w12 w13 := ((below_alloc w12 _).mono hb12').trans hbW13
                              have hfx : FarF XA2 (.slice (some ⟨g, 0, none⟩) H2.length t) H2 (stepT p f T s).length := by rw [stepT_len, HTL.out, HHL2.out]; exact HFX2.out
                              have hfy : FarF YA2 (.slice (some ⟨g, 0, none⟩) H2.length t) H2 (stepT p f T s).length := by rw [stepT_len, HTL.out, HHL2.out]; exact HFY2.out
                              have hat14 : (hvAt H2 s).2.ownBlock = some g13 ∨ g13 = (w12.alloc (.cells #[.int .i64 (y : Int)] 3)).heap.size := by
                                rw [HV2.out, HE.out.2]
                                rcases hat13 with e | e
                                · exact .inl (e.symm.trans rfl).symm.symm
                                · exact .inr (Option.some.inj e)
                              have hown14 : w13.ownsRow g 3 1 (.slice (some ⟨g13, 0, none⟩) ((vN (stepT p f T s) s).length + 1) c13) ((vN (stepT p f T s) s).length + 1) (valsN (vN (stepT p f T s) s ++ [y])) := by rw [HE.out.2]; exact hown13
                              have hg14 : (w12.alloc (.cells #[.int .i64 (y : Int)] 3)).grownBy w13 (hvAt H2 s).2.ownBlock := by rw [HV2.out, HE.out.2]; exact hg13
                              obtain ⟨-, n4, n5, n6, n7⟩ := deal_next (d := w.heap.size) (F := XA2) hgw (by omega) HR'.out hsS hfx HNX2.out hXlt hb12 (below_alloc w12 _) hown14 hg14 hat14 hb45
                              obtain ⟨-, -, n8, n9, -⟩ := deal_next (d := w.heap.size) (F := YA2) hgw (by omega) HR'.out hsS hfy HNY2.out hYlt hb12 (below_alloc w12 _) hown14 hg14 hat14 hb45
                              rw [HE.out.1, HE.out.2, HE3.out, ← HSUC.out, HHL2.out] at n4
                              rw [HE.out.2, stepT_len, HTL.out, HHL2.out] at n5 n8
                              rw [HE.out.2] at n6 n7 n9
                              have HN4 := Lib.hid n4
                              have HN5 := Lib.hid n5
                              have HN6 := Lib.hid n6
                              have HN7 := Lib.hid (hbs.trans n7)
                              have HN8 := Lib.hid n8
                              have HN9 := Lib.hid n9
                              clear n4 n5 n6 n7 n8 n9 hown13 hg13 hat13 hown14 hg14 hat14 hfx hfy hXlt hYlt hb45 hblk
                              go_wp2_with fail
                              go_roundw
                              case rel => exact ⟨s + 1, _, by omega, by go_num, HN4.out, HN5.out, HN8.out, HN6.out, HN9.out, HN7.out⟩
                              case measure => simp [intOf]; omega
                            · obtain rfl : s = t := by omega
                              have hfin : Rows2 wr g (.slice (some ⟨g, 0, none⟩) s s) H2 (stepT p f T T.length) := by rw [HTL.out]; exact hR
                              rw [HSTm.out] at hfin
                              have HFIN := Lib.hid (And.intro hfin (hbm.trans (hbr2.trans hbs)))
                              clear hfin hR hFX hFY hNX hNY
                              go_wp2_with fail
                              go_roundw
                              case rel => exact ⟨m + 1, _, by omega, by go_num, HFIN.out.1, HFIN.out.2⟩
                              case measure => simp [intOf]; omega
                    · obtain rfl : m = sec.length := by omega
                      obtain ⟨XR, cx, ev, hXR⟩ := HR.out.read
                      rw [exT_len] at ev
                      injection ev with ev1 ev2 ev3
                      subst ev1; subst ev3
                      have hX2 : ShP (fun b => w.heap.size ≤ b) wr (some ⟨g, 0, none⟩) t (shL (xpM p n t N SN)) := by rw [HXM.out, HS1.out]; exact hXR.mono (fun b _ hb => by omega)
                      have HX := Lib.hid hX2
                      have HBF := Lib.hid (hbwr.trans (hbm.mono (by omega)))
                      clear hXR hX2
                      go_wp2_with fail
                      go_ret2
                      exact ⟨_, t, by rw [shL_len, xpM_len]; rfl, HX.out, HBF.out⟩

      · have he := xpE_len (p := p) (n := n) (h := h) (sec := sec) (S := S) (fun e => e.elim (fun e => by omega) hsl)
        have t0 : (((vS S 0).length : Int) != (sec.length : Int)) = true := by simp; omega
        rw [xpL_no (by rw [he]; decide), he]
        clear hsl he
        go_enter Tryd.func48, Tryd.ntmps48
        go_wp2_with fail
        refine ret_below HVAL.out ?_
        intro w1 hb1
        have hbw1 := below_trans (below_alloc _ _) hb1
        have HP1 := Lib.hid ((PlanCell.new (w := w) p n h rfl).below hb1)
        have p0 := HP1.out.c0
        have p1 := HP1.out.c1
        have p2 := HP1.out.c2
        go_wp2_with fail
        refine ret_below (HGD.out _ hbw1) ?_
        intro w2 hb2
        have hbw2 := below_trans hbw1 hb2
        have HP2 := Lib.hid (HP1.out.below hb2)
        clear p0 p1 p2
        have p0 := HP2.out.c0
        have p1 := HP2.out.c1
        have p2 := HP2.out.c2
        have u1 := (hbw2.cell (p := ⟨b, off + 1, none⟩) hb0).trans q1
        go_wp2_with fail
        go_ret2
        exact ShErr.nil _ hbw2
end Go.Proofs.YtlhipgejiacklaaDoor
namespace Go.Proofs.YtlhipgejiacklaaDoor
open Go.RowKit

theorem refExplain_made {P0 : Nat → Prop} {p n h : Nat} (P : PlanN p n h) {A B : Option Addr} {ca cb k j : Nat} {K : List ShN} {oth : List Nat} {w : World} (hS : ShP P0 w A ca (shL K)) (hI : NatsAt w B oth) (hk : k = K.length) (hj : j = oth.length)
    (hg : GoodN p h K) (ho : ∀ x ∈ oth, x < p) (hn : K.length < n) (hm : ∀ i, i < K.length → (vN K i).length = oth.length) (hl : oth.length ≤ 2048) :
    Calls Tryd.prog 48 #[planV p n h, .slice A k ca, .slice B j cb] w (DealR (xpM p n h K oth) h w) := by
  subst hk hj
  have hsh : Short (shL K) := fun i hi => by
    rw [shL_len] at hi
    rw [vS_shL, len_ofN, hm i hi]; omega
  have hgd : gdB p h (shL K) = true := (gdB_yes (gd_back hg)).symm
  have hln : (shL K).length = 0 ∨ (vS (shL K) 0).length = (ofN oth).length := by
    rcases Nat.eq_zero_or_pos K.length with e | e
    · exact .inl (by rw [shL_len]; exact e)
    · exact .inr (by rw [vS_shL, len_ofN, len_ofN, hm 0 e])
  have he : xpE p n h (shL K) (ofN oth) = 0 := xpE_ok hgd hln (nat_inside ho) (fun e => by rw [shL_len, len_ofN] at e; omega)
  have := refExplain_any P A B ca cb (shL K) (ofN oth) w hS hsh (by rw [shL_len]; have := P.h7; have := P.nh; omega) hI.ints (by rw [len_ofN]; omega)
  rw [he, xpL_ok he, natL_shL, toNat_ofN, shL_len, len_ofN] at this
  refine this.mono ?_
  rintro e w' ⟨A', c', rfl, h1, h2⟩
  exact ⟨A', c', by rw [shL_len, xpM_len], h1, h2⟩
end Go.Proofs.YtlhipgejiacklaaDoor
namespace Go.Proofs.YtlhipgejiacklaaDoor
open Go.RowKit

attribute [local go_sem high] sliced_low
set_option maxRecDepth 100000 in
set_option maxHeartbeats 8000000 in
theorem reshareHides_walk (A0 : Option Addr) (L0 : List Int) (c0 : Nat) (w : World) (hB : Bases w) (hl0 : L0.length ≤ maxLen) (hI0 : IntsAt w A0 L0) (_ : ∀ n ∈ L0, -9223372036854775808 ≤ n ∧ n ≤ 9223372036854775807) :
    Calls Tryd.prog 12 #[.slice A0 L0.length c0] w (RetB (.bool true) w) := by
  have HB := Lib.hid hB
  clear hB
  by_cases hlight : (L0.length : Int) ≤ 500
  · have hL := light_any A0 L0.length c0 w
    rw [decide_eq_true hlight] at hL
    have HLt := Lib.hid hL
    clear hL hlight
    go_enter Tryd.func12, Tryd.ntmps12
    go_wp2_with fail
    refine ret_pure HLt.out ?_
    clear HLt
    go_wp2_with fail
    refine (roll_any A0 L0 c0 _ hl0 hI0).mono ?_
    rintro e w1 ⟨D, rfl, hDs, hD, hb1⟩
    have hE1 : Env w w1 D L0 := ⟨hD, hDs, hb1⟩
    clear hI0 hD hb1
    go_wp2_with fail
    refine (prime_any D L0 _ hE1.dice).mono ?_
    rintro e w2 ⟨p, rfl, hpp, hp5, -, hD2, hg2⟩
    have hE2 := hE1.next hD2 hg2
    have h2 := hpp.1
    have h1 : 1 ≤ p := by omega
    have hp2 : p ≤ 2147483648 := by omega
    have HPP := Lib.hid hpp
    clear hg2 hD2 hE1 hpp
    go_wp2_with fail
    refine (plan_any D _ p _ hE2.dice h2 hp2).mono ?_
    rintro e w3 ⟨n, h, R3, rfl, ⟨hn1, hnh, hh7, hhp⟩, hD3, hg3⟩
    have hE3 := hE2.next hD3 hg3
    have HPN := Lib.hid (PlanN.mk' HPP.out (by omega) hn1 hnh hh7 hhp)
    clear hD3 hg3 hE2 HPP
    go_wp2_with fail
    refine gen_calls fun w4 hw4 => ?_
    have HP : Hid (PlanCell w4 w3.heap.size p n h) := Lib.hid (by rw [hw4]; exact PlanCell.new _ _ _ rfl)
    have hE : Env w w4 D R3 := hE3.mv (by rw [hw4]; exact below_alloc _ _)
    have hxD : w3.heap.size ≠ D := by have := hE3.lt; omega
    have hlx := HP.out.lt
    have p0 := HP.out.c0
    have p1 := HP.out.c1
    have p2 := HP.out.c2
    generalize w3.heap.size = px at *
    clear hw4 hE3
    refine (plan_any D _ p _ hE.dice h2 hp2).mono ?_
    rintro e wq ⟨n', h', Rq, rfl, ⟨hn1', hnh', hh7', hhp'⟩, hDq, hgq⟩
    replace hE := hE.next hDq hgq; replace HP := Lib.hid (HP.out.mv hgq hxD); replace p0 := HP.out.c0; replace p1 := HP.out.c1; replace p2 := HP.out.c2
    have HPN' := Lib.hid (PlanN.mk' HPN.out.pr HPN.out.p2 hn1' hnh' hh7' hhp')
    clear hDq hgq
    have hlq := HP.out.lt
    have hne1 : px ≠ wq.heap.size := by omega
    go_wp2_with fail
    refine gen_calls fun w6 hw6 => ?_
    have hb6 : Below wq.heap.size wq w6 := by rw [hw6]; exact below_alloc _ _
    have HQ : Hid (PlanCell w6 wq.heap.size p n' h') := Lib.hid (by rw [hw6]; exact PlanCell.new _ _ _ rfl)
    have hyD : wq.heap.size ≠ D := by have := hE.lt; omega
    replace hE := hE.mv hb6; replace HP := Lib.hid (HP.out.below hb6); replace p0 := HP.out.c0; replace p1 := HP.out.c1; replace p2 := HP.out.c2
    have q0 := HQ.out.c0
    have q1 := HQ.out.c1
    have q2 := HQ.out.c2
    generalize wq.heap.size = py at *
    clear hw6 hb6 hlq
    refine (dealt_any D _ p n h 2 _ hE.dice HPN.out (by omega) (by omega)).mono ?_
    rintro e w5 ⟨SA, sc, sec, LA, lc, ran, R5, rfl, hDN, hS, hL, hD5, hg5⟩
    replace HQ := Lib.hid (HQ.out.mv hg5 hyD); replace hE := hE.next hD5 hg5; replace HP := Lib.hid (HP.out.mv hg5 hxD); replace p0 := HP.out.c0; replace p1 := HP.out.c1; replace p2 := HP.out.c2; replace q0 := HQ.out.c0; replace q1 := HQ.out.c1; replace q2 := HQ.out.c2
    have HS := Lib.hid hS
    have HL := Lib.hid hL
    have HDN := Lib.hid hDN
    have hq1 : 1 ≤ sec.length := hDN.lo
    have hq2 : sec.length ≤ 2 := hDN.hi
    have HF := Lib.hid (Full.deal HPN.out hDN.sp hDN.rp)
    obtain ⟨N, hN⟩ : ∃ N, N = dealN p n h sec ran := ⟨_, rfl⟩
    rw [← hN] at HL HF
    clear hDN hS hL hD5 hg5 hN
    go_wp2_with fail
    obtain ⟨rl, hrl⟩ : ∃ rl, rl = sec.length * (n' - 1) := ⟨_, rfl⟩
    have hrl2 : rl ≤ 1048576 := by rw [hrl]; have := Nat.mul_le_mul hq2 (show n' - 1 ≤ 7 by omega); omega
    have hrI : (sec.length : Int) * ((n' : Int) - 1) = (rl : Int) := by rw [hrl, Int.natCast_mul, show ((n' - 1 : Nat) : Int) = (n' : Int) - 1 from by omega]
    have HRL := Lib.hid hrl
    clear hrl
    go_wp2_with fail
    have hDB := hE.lt
    have hxB := HP.out.lt
    have hyB := HQ.out.lt
    have HL0 := Lib.hid (HL.out.mono (Q := fun b => b ≠ D ∧ b < w5.heap.size) (fun b hb hd => ⟨hd, hb⟩))
    have HS0 := Lib.hid HS.out.nats
    have HST := Lib.hid (And.intro hE (And.intro HP.out (And.intro HQ.out (And.intro HS.out HL0.out))))
    clear hE HP HQ p0 p1 p2 q0 q1 q2 HS HL HL0
    go_loopw [8, 39] (fun v i wr => ∃ (t : Nat) (rs : List (List Nat)) (R' : List Int), t ≤ n ∧ i = .int .i64 t ∧ rs.length = t ∧ RowsG PhiL 22 (fun b => w5.heap.size ≤ b) wr w5.heap.size v rs ∧ (∀ r ∈ rs, r.length = sec.length * (n' - 1) ∧ ∀ x ∈ r, x < p) ∧ ShP (fun b => b ≠ D ∧ b < w5.heap.size) wr LA lc (shL N) ∧ Held wr D SA sc sec ∧ PlanCell wr px p n h ∧ PlanCell wr py p n' h' ∧ Env w wr D R' ∧ w5.heap.size ≤ wr.heap.size) (fun _ i _ => n - (intOf i).toNat)
    case atStart => exact ⟨0, [], _, Nat.zero_le _, rfl, rfl, RowsG.nil _ _ _ _ _, (by simp), HST.out.2.2.2.2, HST.out.2.2.2.1, HST.out.2.1, HST.out.2.2.1, HST.out.1, Nat.le_refl _⟩
    case round =>
      obtain ⟨t, rs, R', ht, rfl, hNl, hR, hNs, hL, hS, hP, hQ, hE, hzr⟩ := hrel
      have HNL := Lib.hid hNl
      have HNS := Lib.hid hNs
      have HR := Lib.hid hR
      have HL := Lib.hid hL
      have HS := Lib.hid hS
      have HP := Lib.hid hP
      have HQ := Lib.hid hQ
      have p0 := HP.out.c0
      have p1 := HP.out.c1
      have p2 := HP.out.c2
      have q0 := HQ.out.c0
      have q1 := HQ.out.c1
      have q2 := HQ.out.c2
      obtain ⟨VA, vc, hv, HLI⟩ := hR.lst
      rw [hNl] at hv
      subst hv
      have HLI := Lib.hid HLI
      clear hNl hNs hL hS hP hQ HST hR
      by_cases hlt2 : t < n
      · go_wp2_with fail
        have hbv := HR.out.lt1
        refine (elements_any D _ p rl _ hE.dice h1 hp2 hrl2).mono ?_
        intro e wb he
        obtain ⟨RA, rc, ra, RR, rfl, hrn, hrp, hSl, hI, hDb, hgb⟩ := elems_new he
        have HI := Lib.hid (hI.mono (Q := fun b => w5.heap.size ≤ b ∧ (Value.slice VA t vc).ownBlock ≠ some b) (fun b _ hb => ⟨by omega, fun e => by have := hbv b e; omega⟩))
        have HRN := Lib.hid (And.intro hrn (And.intro hrp hSl))
        replace HQ := Lib.hid (HQ.out.mv hgb hyD); replace hE := hE.next hDb hgb; replace HP := Lib.hid (HP.out.mv hgb hxD); replace p0 := HP.out.c0; replace p1 := HP.out.c1; replace p2 := HP.out.c2; replace q0 := HQ.out.c0; replace q1 := HQ.out.c1; replace q2 := HQ.out.c2; replace HS := Lib.hid (HS.out.mv hgb); replace HL := Lib.hid (HL.out.keep ⟨hgb.size, fun b hb hlt => hgb.block b hlt (fun e => by injection e with e; exact hb.1 e)⟩); replace HR := Lib.hid (HR.out.mv phiL hgb hDB (fun b hb => by omega)); replace hzr := Nat.le_trans hzr hgb.size
        clear he hrn hrp hSl hI hDb hgb hbv HLI
        obtain ⟨Vs, e1, e2, e3⟩ := HR.out.ex
        have HE3 := Lib.hid (And.intro e2 e3)
        have hVl : Vs.length = t := by rw [e2, HNL.out]
        have HVL := Lib.hid hVl
        have e1' : wb.ownsRow w5.heap.size 22 1 (.slice VA t vc) Vs.length Vs := e1
        have HOW := Lib.hid e1'
        clear e1 e2 e3 e1' hVl
        go_wp2_with (at_builtin; refine app_val rfl (.tmp 41) (.tmp 52) 59 rfl (base := w5.heap.size) Tryd.underlying59 info_ints rfl rfl HOW.out rfl rfl (by rw [HVL.out]; omega) (by omega) (by omega) hzr ?_; intro v4 w9 hown4 hg4 hb4 hv4)
        have hEB : w5.heap.size ≤ w9.heap.size := Nat.le_trans hzr hg4.size
        have HE9 := Lib.hid (hE.app hDB hb4)
        have HP9 := Lib.hid (HP.out.keep (hb4.block px hxB))
        have HQ9 := Lib.hid (HQ.out.keep (hb4.block py hyB))
        have HL9 := Lib.hid (HL.out.keep (w' := w9) ⟨hg4.size, fun b hb _ => hb4.block b hb.2⟩)
        have HS9 := Lib.hid (Held.app HS0.out HS.out hb4)
        have HR9 := Lib.hid (RowsG.more phiL HE3.out.1 HE3.out.2 ⟨RA, rc, rfl, HRN.out.2.2, HI.out⟩ hown4 hg4 hv4)
        have HNS9 := Lib.hid (show ∀ r ∈ rs ++ [ra], r.length = sec.length * (n' - 1) ∧ ∀ x ∈ r, x < p from fun r hr => by
          rcases List.mem_append.1 hr with h0 | h0
          · exact HNS.out r h0
          · rw [List.mem_singleton.1 h0]; exact ⟨HRN.out.1.trans HRL.out, HRN.out.2.1⟩)
        clear hown4 hg4 hb4 hv4
        go_roundw
        case rel => exact ⟨t + 1, rs ++ [ra], _, by omega, by go_num, by rw [List.length_append, HNL.out]; rfl, HR9.out, HNS9.out, HL9.out, HS9.out, HP9.out, HQ9.out, HE9.out, hEB⟩
        case measure => simp [intOf]; omega
      · have htn : n = t := by omega
        subst htn
        have HRS := Lib.hid (rands_of (n' := n') (m := sec.length) (Nat.le_of_eq HNL.out.symm) HNS.out)
        replace HL := Lib.hid (HL.out.mono (Q := fun b => b ≠ D) (fun b _ hb => hb.1))
        replace HLI := Lib.hid (HLI.out.mono (Q := fun b => b ≠ D) (fun b _ hb => by omega))
        have hrn := HNL.out
        have HRN := Lib.hid hrn
        clear HR hrn HNL HNS
        have HLEN := Lib.hid HF.out.len
        have hln0 : 0 < N.length := by rw [HLEN.out]; omega
        go_wp2_with fail
        refine (move_made p n h n' h' LA VA lc vc h n sec N rs _ HPN.out HPN'.out (hE.bases HB.out) HF.out.made (by omega) (by exact HL.out) (by exact HLI.out) (by rw [HLEN.out]; exact hnh) (by rw [HLEN.out]; omega) HLEN.out.symm HRN.out.symm (Nat.le_of_eq HRN.out.symm) (by rw [HRN.out]; omega) HRS.out).mono ?_
        rintro e wm ⟨MA, mc, rfl, hM, hbm⟩
        have HM := Lib.hid (hM.away hE.lt)
        replace HQ := Lib.hid (HQ.out.below hbm); replace hE := hE.mv hbm; replace HP := Lib.hid (HP.out.below hbm); replace p0 := HP.out.c0; replace p1 := HP.out.c1; replace p2 := HP.out.c2; replace q0 := HQ.out.c0; replace q1 := HQ.out.c1; replace q2 := HQ.out.c2; replace HS := Lib.hid (HS.out.below hbm); replace HL := Lib.hid (HL.out.below hbm); replace HLI := Lib.hid (HLI.out.below hbm)
        have HFM := Lib.hid (moved_full HPN.out HPN'.out HF.out.made (by omega) (Nat.le_refl _) (by rw [HLEN.out]; exact hnh) HRS.out)
        clear hM hbm
        generalize movedN p n' h' N rs n = MV at *
        have HLEM := Lib.hid HFM.out.len
        obtain ⟨q, hq⟩ : ∃ q, q + 1 = n' := ⟨n' - 1, by omega⟩
        have HMC := Lib.hid (show MV.length ≤ mc by have h := HM.out.cap; exact h)
        have ek : IntKind.i64.wrap ((n' : Int) - 1) = (q : Int) := by rw [IntWalk.i64_in _ (by omega)]; omega
        have ek0 : (0 : Int) ≤ (q : Int) := by omega
        have ek1 : (q : Int) ≤ (mc : Int) := by have := HMC.out; rw [HLEM.out] at this; omega
        have hqh : q ≤ h' := by omega
        have hqn : q < n' := by omega
        have HTQ : Hid (ShP (· ≠ D) wm MA mc (shL (MV.take q))) := Lib.hid (by rw [← shL_take]; exact HM.out.take q)
        have HQL : Hid ((MV.take q).length = q) := Lib.hid (by rw [List.length_take, HLEM.out]; omega)
        have HGD := Lib.hid ((HFM.out.made.take q).good h1 (by omega))
        have HVQ := Lib.hid (fun i (hi : i < (MV.take q).length) => (HFM.out.made.take q).vlen hi)
        clear hq
        go_wp2_with fail
        go_region_held3 (fun w' => w'.cell? ⟨px, 0, none⟩ = some (.int .i64 (p : Int)) ∧ w'.cell? ⟨px, 1, none⟩ = some (.int .i64 (n : Int)) ∧ w'.cell? ⟨px, 2, none⟩ = some (.int .i64 (h : Int)) ∧ w'.cell? ⟨py, 0, none⟩ = some (.int .i64 (p : Int)) ∧ w'.cell? ⟨py, 1, none⟩ = some (.int .i64 (n' : Int)) ∧ w'.cell? ⟨py, 2, none⟩ = some (.int .i64 (h' : Int))) (first | go_keep)
          (first
            | (go_at_call 21; refine (elements_any D _ p sec.length _ (by exact hE.dice) h1 hp2 (by omega)).mono ?_; intro e we he; obtain ⟨OA, oc, oth, Ro, rfl, hol, hop, hO, hDe, hge⟩ := elems_held (by exact hE.lt) he; have hge' : wm.grownBy we (some D) := (by first | exact grown_undrew hge | exact hge); replace HQ := Lib.hid (HQ.out.mv hge' hyD); replace hE := hE.next hDe hge'; replace HP := Lib.hid (HP.out.mv hge' hxD); replace p0 := HP.out.c0; replace p1 := HP.out.c1; replace p2 := HP.out.c2; replace q0 := HQ.out.c0; replace q1 := HQ.out.c1; replace q2 := HQ.out.c2; replace HS := Lib.hid (HS.out.mv hge'); replace HL := Lib.hid (HL.out.mv hge'); replace HLI := Lib.hid (HLI.out.mv hge'); replace HTQ := Lib.hid (HTQ.out.mv hge'); have HO := Lib.hid hO; have HOL := Lib.hid hol)
            | (go_at_call 48; refine (refExplain_made HPN'.out (by exact HTQ.out) (by exact HO.out.nats) HQL.out.symm HOL.out.symm HGD.out hop (by rw [HQL.out]; omega) (fun i hi => by rw [HVQ.out i hi]; exact HOL.out.symm) (by rw [HOL.out]; omega)).mono ?_; rintro e wx ⟨XA, xc, rfl, hX, hbx⟩; have HX := Lib.hid (hX.away hE.lt); replace HQ := Lib.hid (HQ.out.below hbx); replace hE := hE.mv hbx; replace HP := Lib.hid (HP.out.below hbx); replace p0 := HP.out.c0; replace p1 := HP.out.c1; replace p2 := HP.out.c2; replace q0 := HQ.out.c0; replace q1 := HQ.out.c1; replace q2 := HQ.out.c2; replace HS := Lib.hid (HS.out.below hbx); replace HL := Lib.hid (HL.out.below hbx); replace HLI := Lib.hid (HLI.out.below hbx); replace HTQ := Lib.hid (HTQ.out.below hbx)))
        all_goals
          have hful := xpM_full HPN'.out HGD.out hop (by rw [HQL.out]; omega) (by
            rcases Nat.eq_zero_or_pos (MV.take q).length with e | e
            · exact .inl e
            · exact .inr ((HVQ.out 0 e).trans HOL.out.symm))
          have HFU := Lib.hid hful.1
          have HXL := Lib.hid (xpM_len p n' h' (MV.take q) oth)
          clear he hol hop hO hDe hge hge' hX hbx hful HO
          generalize xpM p n' h' (MV.take q) oth = X at *
          clear HTQ HQL HGD HVQ ek ek0 ek1
          obtain ⟨b1, o1, B1, c1, rfl, hb1, hb1D, x0, x1, hN0, hI0'⟩ := HL.out.nat hln0
          obtain ⟨b2, o2, B2, c2, rfl, hb2, hb2D, y0, hSl, hI2⟩ := HLI.out.at_ 0 (show 0 < rs.length by rw [HRN.out]; omega)
          obtain ⟨hx1, hx2, hLp⟩ := (HF.out.made.good h1 (by omega)).rng 0 hln0
          have hvl := HF.out.made.vlen hln0
          have hr1 := HRS.out.len 0 (by omega)
          have hr2 := HRS.out.lt 0 (by omega)
          rw [Nat.zero_mul, Nat.add_zero] at x0 x1
          rw [Nat.add_zero] at y0
          obtain ⟨L, hL⟩ : ∃ L, vN N 0 = L := ⟨_, rfl⟩
          obtain ⟨x, hx⟩ : ∃ x, hN N 0 = x := ⟨_, rfl⟩
          obtain ⟨r0, hr0⟩ : ∃ r0, rs.getD 0 [] = r0 := ⟨_, rfl⟩
          rw [hx] at x0 hx1 hx2
          rw [hL] at x1 hLp hvl hN0
          rw [hr0] at y0 hSl hI2 hr1 hr2
          have HVL := Lib.hid hvl
          have HR1 := Lib.hid hr1
          have HR2 := Lib.hid hr2
          have HLP := Lib.hid hLp
          have HSL := Lib.hid hSl
          have HI2 := Lib.hid hI2
          have HN0 := Lib.hid hN0
          clear hvl hr1 hr2 hLp hSl hI2 hN0 hI0' hL hx hr0
          have i1 : (0 : Int) < (N.length : Int) := by omega
          have i2 : (0 : Int) < (n : Int) := by omega
          have h01 : (0 : Int) < (h : Int) := by omega
          have h02 : 0 < h := by omega
          have h03 : 0 < n := by omega
          have h04 : ¬ h = 0 := by omega
          have h05 : ¬ n = 0 := by omega
          have h06 : ¬ (h : Int) ≤ 0 := by omega
          have h07 : ¬ (n : Int) ≤ 0 := by omega
          have hLl : L.length ≤ 2 := by rw [HVL.out]; omega
          have hRl : r0.length ≤ 1048576 := by rw [HR1.out, ← HRL.out]; exact hrl2
          clear hb1D hb2D
          go_wp2_with fail
          go_region_held3 (fun w' => w'.cell? ⟨px, 0, none⟩ = some (.int .i64 (p : Int)) ∧ w'.cell? ⟨px, 1, none⟩ = some (.int .i64 (n : Int)) ∧ w'.cell? ⟨px, 2, none⟩ = some (.int .i64 (h : Int)) ∧ w'.cell? ⟨py, 0, none⟩ = some (.int .i64 (p : Int)) ∧ w'.cell? ⟨py, 1, none⟩ = some (.int .i64 (n' : Int)) ∧ w'.cell? ⟨py, 2, none⟩ = some (.int .i64 (h' : Int)) ∧ w'.cell? ⟨b1, o1, none⟩ = some (.int .i64 (x : Int)) ∧ w'.cell? ⟨b1, o1 + 1, none⟩ = some (.slice B1 L.length c1) ∧ w'.cell? ⟨b2, o2, none⟩ = some (.slice B2 r0.length c2)) (first | go_keep)
            (first
              | (go_at_call 42; refine (split_made p n h n' h' x B1 B2 L r0 c1 c2 _ _ HPN.out HPN'.out (by exact hE.bases HB.out) (by exact HN0.out) (by exact HI2.out.ints.nats) HSL.out hx1 hx2 HLP.out HR2.out (by omega) (by rw [HR1.out, HVL.out]) hRl rfl).mono ?_; rintro e ws ⟨DA, dc, rfl, hDA, hbs⟩; have hbs' : Below wx.heap.size wx ws := (by first | exact below_undrew1 hbs | exact hbs); have HDA := Lib.hid (hDA.away (by exact hE.lt)); replace HQ := Lib.hid (HQ.out.below hbs'); replace hE := hE.mv hbs'; replace HP := Lib.hid (HP.out.below hbs'); replace p0 := HP.out.c0; replace p1 := HP.out.c1; replace p2 := HP.out.c2; replace q0 := HQ.out.c0; replace q1 := HQ.out.c1; replace q2 := HQ.out.c2; replace HX := Lib.hid (HX.out.below hbs'); replace x0 := (hbs'.cell (p := ⟨b1, o1, none⟩) hb1).trans x0; replace x1 := (hbs'.cell (p := ⟨b1, o1 + 1, none⟩) hb1).trans x1; replace y0 := (hbs'.cell (p := ⟨b2, o2, none⟩) hb2).trans y0; replace hb1 := Nat.lt_of_lt_of_le hb1 hbs'.size; replace hb2 := Nat.lt_of_lt_of_le hb2 hbs'.size; replace HN0 := Lib.hid (HN0.out.below hbs')))
          all_goals
            have HMD := Lib.hid (deal_Made HPN'.out HLP.out HR2.out)
            have HDL := Lib.hid (deal_len p n' h' L r0)
            clear hbs hbs' hDA HI2
            generalize dealN p n' h' L r0 = DD at *
            go_wp2_with fail
            refine (refCombine_made HMD.out HPN'.out DA dc h' _ (by exact HDA.out) (by omega) (by rw [HDL.out]; omega) HDL.out.symm (by rw [HDL.out]; exact hnh')).mono ?_
            intro e wu he
            obtain ⟨YA, yc, rfl, hY, hbu⟩ := he.held hE.lt
            have HY := Lib.hid hY
            replace HQ := Lib.hid (HQ.out.below hbu); replace hE := hE.mv hbu; replace HP := Lib.hid (HP.out.below hbu); replace p0 := HP.out.c0; replace p1 := HP.out.c1; replace p2 := HP.out.c2; replace q0 := HQ.out.c0; replace q1 := HQ.out.c1; replace q2 := HQ.out.c2; replace HX := Lib.hid (HX.out.below hbu); replace x0 := (hbu.cell (p := ⟨b1, o1, none⟩) hb1).trans x0; replace x1 := (hbu.cell (p := ⟨b1, o1 + 1, none⟩) hb1).trans x1; replace y0 := (hbu.cell (p := ⟨b2, o2, none⟩) hb2).trans y0; replace hb1 := Nat.lt_of_lt_of_le hb1 hbu.size; replace hb2 := Nat.lt_of_lt_of_le hb2 hbu.size; replace HN0 := Lib.hid (HN0.out.below hbu)
            clear he hY HDA
            go_wp2_with fail
            refine ret_below (refFits_made HFU.out.made HPN'.out XA xc h' _ (by exact HX.out) (by rw [HOL.out]; omega) (by rw [HXL.out]; omega) HXL.out.symm) ?_
            intro wf hbf
            replace HY := Lib.hid (HY.out.below hbf)
            replace HQ := Lib.hid (HQ.out.below hbf); replace hE := hE.mv hbf; replace HP := Lib.hid (HP.out.below hbf); replace p0 := HP.out.c0; replace p1 := HP.out.c1; replace p2 := HP.out.c2; replace q0 := HQ.out.c0; replace q1 := HQ.out.c1; replace q2 := HQ.out.c2; replace HX := Lib.hid (HX.out.below hbf); replace x0 := (hbf.cell (p := ⟨b1, o1, none⟩) hb1).trans x0; replace x1 := (hbf.cell (p := ⟨b1, o1 + 1, none⟩) hb1).trans x1; replace y0 := (hbf.cell (p := ⟨b2, o2, none⟩) hb2).trans y0; replace hb1 := Nat.lt_of_lt_of_le hb1 hbf.size; replace hb2 := Nat.lt_of_lt_of_le hb2 hbf.size; replace HN0 := Lib.hid (HN0.out.below hbf)
            clear hbf
            go_wp2_with fail
            refine (same_at YA B1 L _ _ yc c1 _ HY.out.nats HN0.out (by omega) rfl rfl).mono ?_
            rintro e wx2 ⟨rfl, rfl⟩
            go_wp2_with fail
            refine ret_below (awake9 _ (hE.bases HB.out)) ?_
            intro wz2 hbz2
            go_wp2_with fail
            go_ret
            exact RetB.bool rfl (hE.mv hbz2).below
  · have hL := light_any A0 L0.length c0 w
    rw [decide_eq_false hlight] at hL
    have HLt := Lib.hid hL
    clear hL
    go_enter Tryd.func12, Tryd.ntmps12
    go_wp2_with fail
    refine ret_pure HLt.out ?_
    go_wp2_with fail
    refine ret_below (awake9 _ HB.out) ?_
    intro w1 hb1
    go_wp2_with fail
    go_ret
    exact RetB.bool rfl hb1
end Go.Proofs.YtlhipgejiacklaaDoor
namespace Go.Proofs.YtlhipgejiacklaaDoor
open Go.RowKit

theorem cell_block_lt {w : World} {a : Addr} {v : Value} (h : w.cell? a = some v) : a.block < w.heap.size := by
  rcases Nat.lt_or_ge a.block w.heap.size with hlt | hge
  · exact hlt
  · unfold World.cell? at h; simp [Array.getElem?_eq_none hge] at h
theorem open_row {W : World} {x : Addr} {len cap : Nat} {zs : List Int} (hl : len ≤ cap) (hm : cap ≤ maxLen) (hz : zs.length = cap) (hcell : ∀ i, i < zs.length → W.cell? (x.add i) = some (.int .i64 (zs.getD i 0)))
    (hb : ∀ n ∈ zs, -9223372036854775808 ≤ n ∧ n ≤ 9223372036854775807) :
    ∃ ys : List Int, ys.length = len ∧ ys.length ≤ maxLen ∧ IntsAt W (some x) ys ∧ ∀ n ∈ ys, -9223372036854775808 ≤ n ∧ n ≤ 9223372036854775807 := by
  refine ⟨zs.take len, by simp; omega, by simp; omega, fun k hk => ?_, fun n hn => hb n (List.mem_of_mem_take hn)⟩
  have hk' : k < len := by simpa using Nat.lt_of_lt_of_le hk (List.length_take_le _ _)
  have h0 := hcell 0 (by omega)
  have hk0 := hcell k (by omega)
  obtain ⟨b, off, spot⟩ := x
  have hs : spot = none := by simpa [Addr.add] using World.cell?_spot h0
  subst hs
  have hlt := cell_block_lt hk0
  refine ⟨b, off, rfl, ?_, ?_⟩
  · unfold Addr.add at hlt; split at hlt <;> exact hlt
  · have e : (⟨b, off, none⟩ : Addr).add k = ⟨b, off + k, none⟩ := by
      unfold Addr.add; split
      · rename_i h; subst h; rfl
      · rfl
    rw [← e, hk0, nth_eq hk]
    simp [List.getD_eq_getElem?_getD, show k < zs.length by omega]
end Go.Proofs.YtlhipgejiacklaaDoor
