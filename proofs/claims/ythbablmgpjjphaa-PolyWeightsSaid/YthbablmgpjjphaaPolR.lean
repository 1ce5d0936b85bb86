/-
  Polynomials: the program's division.
-/
import Derived.Test.YthbablmgpjjphaaPolQ
namespace Go.Proofs.Ythbablmgpjjphaa
open Go.RowKit

/-- What a step of the division knows. -/
def DivI (p : Nat) (a b : List Nat) (d m : Nat) (r q : List Nat) : Prop :=
  dqN p a b = dvN p b d (invV p (nthN b d)) m r q ∧ r.length = a.length ∧ q.length = a.length - d ∧ (∀ j, nthN r j < p) ∧ (m = 0 ∨ m + d ≤ a.length)
theorem DivI.start {p : Nat} {a b : List Nat} {d : Nat} (h : dgN b = d + 1) (ha : ∀ j, nthN a j < p) : DivI p a b d (a.length - d) a (List.replicate (a.length - d) 0) :=
  ⟨dqN_d h, rfl, by simp, ha, by omega⟩
theorem DivI.step {p : Nat} (hp : 1 ≤ p) {a b : List Nat} {d m : Nat} {r q : List Nat} (h : DivI p a b d (m + 1) r q) :
    DivI p a b d m (stN p b d (fmul p (nthN r (m + d)) (invV p (nthN b d))) m r) (q.set m (fmul p (nthN r (m + d)) (invV p (nthN b d)))) := by
  obtain ⟨h1, h2, h3, h4, h5⟩ := h
  refine ⟨h1, by rw [stN_len]; exact h2, by simpa using h3, fun j => ?_, by omega⟩
  by_cases hj : j < r.length
  · rw [stN_nth p b d _ m r hj]; split
    · exact fsub_lt hp _ _
    · exact h4 j
  · rw [nthN_ge (by rw [stN_len]; omega)]; omega

set_option maxRecDepth 100000 in
set_option maxHeartbeats 4000000 in
theorem divide_any (p : Nat) (A B : Option Addr) (L M : List Nat) (ca cb : Nat) (w : World) (hp : 2 ≤ p) (hp2 : p ≤ 2147483648) (hA : NatsAt w A L) (hSA : SlOK A ca L) (hB : NatsAt w B M) (hSB : SlOK B cb M) (hL : ∀ y ∈ L, y < p) (hM : ∀ y ∈ M, y < p)
    (hl : L.length ≤ 1048576) (hm : M.length ≤ 1048576) :
    Calls Try.prog 14 #[.int .i64 p, .slice A L.length ca, .slice B M.length cb] w (DivP (quN p L M) (reN p L M) (diE M) w) := by
  have hp1 : 1 ≤ p := by omega
  have HB := Lib.hid hB
  have hcl := hSB.len
  have hcm := hSB.cap
  unfold maxLen at hcm
  obtain ⟨hg1, hg2⟩ := dgI_ge M
  have HDG := Lib.hid (dgI_succ M)
  by_cases h0 : dgN M = 0
  · have hR := di_no (p := p) (a := L) h0
    rw [hR.1, hR.2.1, hR.2.2]
    have hd1 : dgI M = -1 := by have := HDG.out; omega
    have hdg := degree_any B M cb w hB (by omega)
    rw [hd1] at hdg
    have HC := Lib.hid hdg
    clear h0 hR hd1 hdg hA hSA hB hSB hL hM hg1 hg2 HDG
    go_enter Try.func14, Try.ntmps14
    go_wp2_with fail
    refine ret_below HC.out ?_
    intro w1 hb1
    go_wp2_with fail
    go_ret3
    exact DivP.nil _ hb1
  · have hR := di_ok (p := p) (a := L) h0
    rw [hR.1, hR.2.1, hR.2.2]
    obtain ⟨d, hd⟩ : ∃ d, dgN M = d + 1 := ⟨dgN M - 1, by omega⟩
    have hdi : dgI M = (d : Int) := by have := HDG.out; omega
    have hdl : d < M.length := by have := dgN_le M; omega
    have hdg := degree_any B M cb w hB (by omega)
    rw [hdi] at hdg
    have HC := Lib.hid hdg
    have HI0 := Lib.hid (DivI.start (a := L) hd (nthN_lt hp1 hL))
    have HA := Lib.hid hA
    have HSA := Lib.hid hSA
    have HM := Lib.hid (nthN_lt hp1 hM)
    have HSB := Lib.hid hSB
    clear h0 hR hdi hdg hA hSA hB hSB hL hM hg1 hg2 HDG hd
    go_enter Try.func14, Try.ntmps14
    go_wp2_with fail
    refine ret_below HC.out ?_
    intro w1 hb1
    obtain ⟨bB, oB, rfl, hbB, hcB⟩ := (HB.out.below hb1) d hdl
    have hbd := HM.out d
    have i1 : (0 : Int) ≤ (d : Int) := by omega
    have i2 : (d : Int) < (M.length : Int) := by omega
    go_wp2_with fail
    refine ret_pure (inverse_any p (nthN M d) _ hp hp2 hbd) ?_
    have hiv := invV_lt hp1 (nthN M d)
    go_wp2_with fail
    refine (clone_any A L ca _ (HA.out.below hb1) HSA.out (by omega)).mono ?_
    rintro e w2 ⟨v, rfl, hown2, hb2⟩
    obtain ⟨A2, c2, rfl, hS2, hR2⟩ := row_of_own hown2 rfl
    have hbw2 := below_trans hb1 hb2
    have hz2 := hbw2.size
    have hR2' := hR2.mono hb1.size
    clear hown2 hcB
    go_wp2_with (at_make; refine make_nats rfl _ _ rfl (L.length - d) rfl rfl (by omega) (by omega) ?_; intro w3 hB3 hb3)
    all_goals
      have hbw3 := below_trans hbw2 hb3
      have hR3 := hR2'.below hb3
      have hg2 : ∀ g, A2 = some ⟨g, 0, none⟩ → 0 < L.length → g ≠ w2.heap.size := fun g e h => by
        rcases hR2 with h' | ⟨g', e', _, h'⟩
        · omega
        · rw [e'] at e; injection e with e; injection e with e; have := h'.lt; omega
      have HG2 := Lib.hid hg2
      clear hR2 hR2' hg2 hb3 hb2 hb1
      go_loopw [14] (fun i wr => ∃ (m : Nat) (r q : List Nat) (I : Int), i = .int .i64 I ∧ (0 < m → I = (m : Int) + d - 1) ∧ (m = 0 → I < d) ∧ -1 ≤ I ∧ I < 1048576 ∧ RowAt wr w.heap.size A2 r ∧ NatBlk wr w2.heap.size q ∧ DivI p L M d m r q ∧ Below w.heap.size w wr)
        (fun i _ => (intOf i + 1 - d).toNat)
      case atStart => exact ⟨L.length - d, L, _, _, rfl, fun h => by omega, fun h => by omega, by omega, by omega, hR3, hB3, HI0.out, hbw3⟩
      case round =>
        obtain ⟨m, r, q, I, rfl, hI1, hI2, hI3, hI4, hr, hq, hdi, hbr⟩ := hrel
        have HDI := Lib.hid hdi
        have HRR := Lib.hid hr
        clear hr hdi hR3 hB3
        rcases m with _ | m
        · have hI5 : I < d := hI2 rfl
          clear hI1 hI2
          have t1 : decide ((d : Int) ≤ I) = false := decide_eq_false (by omega)
          have hrl := HDI.out.2.1
          have hql := HDI.out.2.2.1
          have hdq := HDI.out.1
          have hdq2 : (dqN p L M).2 = q := by rw [hdq]; rfl
          have hdq1 : (dqN p L M).1 = r := by rw [hdq]; rfl
          have HRL := Lib.hid hrl
          have HQL := Lib.hid hql
          have hsq := short_any _ q q.length wr hq.nats (SlOK.own hq (by unfold maxLen; omega)) (by omega)
          rw [hql] at hsq
          have HSQ := Lib.hid hsq
          have hsr := fun (w' : World) (hb : Below wr.heap.size wr w') => short_any A2 r c2 w' (HRR.out.nats.below hb) ⟨by rw [hrl]; exact hS2.len, hS2.cap, hS2.nil, hS2.spot⟩ (by omega)
          rw [hrl] at hsr
          have HSR := Lib.hid hsr
          have HD1 := Lib.hid hdq1
          have HD2 := Lib.hid hdq2
          clear hrl hql hdq hdq1 hdq2 hsq hsr
          go_wp2_with fail
          refine HSQ.out.mono ?_
          intro e w4 hn4
          obtain ⟨A4, c4, rfl, hN4, hS4, -, hb4⟩ := hn4.open_
          have HN4 := Lib.hid hN4
          have HS4 := Lib.hid hS4
          clear hn4 hN4 hS4
          go_wp2_with fail
          refine (HSR.out w4 hb4).mono ?_
          intro e w5 hn5
          obtain ⟨A5, c5, rfl, hN5, hS5, -, hb5⟩ := hn5.open_
          have HN5 := Lib.hid hN5
          have HS5 := Lib.hid hS5
          clear hn5 hN5 hS5
          go_wp2_with fail
          go_ret3
          rw [HD1.out, HD2.out]
          exact ⟨A4, c4, A5, c5, rfl, HN4.out.below hb5, HS4.out, HN5.out, HS5.out, below_trans hbr (below_trans hb4 hb5)⟩
        · obtain ⟨n, hn⟩ : ∃ n : Nat, n = m + d := ⟨_, rfl⟩
          obtain rfl : I = (n : Int) := by have := hI1 (by omega); omega
          have HNN := Lib.hid hn
          have hnm : m + d ≤ n := by omega
          have hnm2 : n ≤ m + d := by omega
          have hrl := HDI.out.2.1
          have hql := HDI.out.2.2.1
          have hr4 := HDI.out.2.2.2.1
          have hr5 : m + 1 + d ≤ L.length := by have := HDI.out.2.2.2.2; omega
          try (exfalso; omega)
          all_goals
            have hst := HDI.out.step hp1
            rw [← hn] at hst
            have HST := Lib.hid hst
            obtain ⟨g, hgA, hgb, hrow⟩ : ∃ g, A2 = some ⟨g, 0, none⟩ ∧ w.heap.size ≤ g ∧ NatRow wr g r := by
              rcases HRR.out with h | h
              · omega
              · exact h
            subst hgA
            have hne := HG2.out g rfl (by omega)
            have hcc := hrow.cell n (by omega)
            have hcl2 := hr4 n
            have hql2 : m < q.length := by omega
            have hqc := hq.cell m hql2
            have hqf := hq.frozen m
            have hcp := fmul_lt hp1 (nthN r n) (invV p (nthN M d))
            have i3 : (0 : Int) ≤ (n : Int) := by omega
            have i4 : (n : Int) < (L.length : Int) := by omega
            have e1 : (n : Int) - (d : Int) = (m : Int) := by omega
            have HQ1 := Lib.hid (hq.set_ m (fmul p (nthN r n) (invV p (nthN M d))))
            have HR1 := Lib.hid (hrow.other ⟨w2.heap.size, m, none⟩ (.int .i64 (fmul p (nthN r n) (invV p (nthN M d)) : Nat)) hne)
            have HB1 := Lib.hid (hbr.setCell (p := ⟨w2.heap.size, m, none⟩) hz2 (.int .i64 (fmul p (nthN r n) (invV p (nthN M d)) : Nat)))
            have HRL := Lib.hid hrl
            have HR4 := Lib.hid hr4
            have hrl1 : L.length ≤ r.length := by omega
            have HR5 := Lib.hid hr5
            clear hI1 hI2 hrl hql hst hr4 HRR hq hrow hn hI3 hI4 hnm hnm2 hr5 hS2 hrl1 hql2
            go_wp2_with fail
            refine ret_pure (mul_nat p (nthN r n) (invV p (nthN M d)) _ hp1 hp2 hcl2 hiv) ?_
            go_wp2_with fail
            generalize fmul p (nthN r n) (invV p (nthN M d)) = c at *
            generalize hwo : wr.setCell ⟨w2.heap.size, m, none⟩ (.int .i64 (c : Nat)) = wo at *
            have hbo := HB1.out
            clear hwo hcc hqc hqf hcl2 e1 hbr hbB
            go_loopw [65] (fun j wr => ∃ (k : Nat) (ds : List Nat), k ≤ d + 1 ∧ j = .int .i64 k ∧ NatRow wr g ds ∧ MidS p M c m r k ds ∧ NatBlk wr w2.heap.size (q.set m c) ∧ Below w.heap.size w wr) (fun j _ => d + 1 - (intOf j).toNat)
            case atStart => exact ⟨0, r, by omega, rfl, HR1.out, MidS.start, HQ1.out, hbo⟩
            case round =>
              obtain ⟨k, ds, hk, rfl, hrk, hds, hqk, hbk⟩ := hrel
              have HDS := Lib.hid hds
              clear hds hbo
              by_cases hkd : k < d + 1
              · obtain ⟨bB', oB', e', hbB, hcB⟩ := (HB.out.below hbk) k (by omega)
                injection e' with e'; injection e' with e1 e2; subst e1; subst e2
                obtain ⟨j, hj⟩ : ∃ j, j = m + k := ⟨_, rfl⟩
                have hjl : j < r.length := by have := HRL.out; have := HNN.out; have := HR5.out; omega
                have hdl2 : j < ds.length := by rw [HDS.out.1]; exact hjl
                have HJ := Lib.hid hj
                have e1 : IntKind.i64.wrap ((n : Int) - (d : Int)) = (m : Int) := by have := HNN.out; rw [this]; exact (IntWalk.i64_in _ (by have := HR5.out; omega)).trans (by omega)
                have e2 : IntKind.i64.wrap ((m : Int) + (k : Int)) = (j : Int) := by rw [hj]; exact (IntWalk.i64_in _ (by have := HR5.out; omega)).trans (by push_cast; rfl)
                have hcc := hrk.cell j hdl2
                have hff := hrk.frozen j
                have hdp := HDS.out.lt hp1 HR4.out j
                have hyp := HM.out k
                have hfm := fmul_lt hp1 c (nthN M k)
                have hst := HDS.out.step
                rw [← hj] at hst
                have HST2 := Lib.hid hst
                have HS := Lib.hid (hrk.set_ j (fsub p (nthN ds j) (fmul p c (nthN M k))) hdl2)
                have HQ := Lib.hid (hqk.other ⟨g, j, none⟩ (.int .i64 (fsub p (nthN ds j) (fmul p c (nthN M k)) : Nat)) (fun e => hne e.symm))
                have HBB := Lib.hid (hbk.setCell (p := ⟨g, j, none⟩) hgb (.int .i64 (fsub p (nthN ds j) (fmul p c (nthN M k)) : Nat)))
                have i5 : (0 : Int) ≤ (j : Int) := by omega
                have i6 : (j : Int) < (L.length : Int) := by have := HRL.out; omega
                clear hst hj hjl hdl2 hne
                go_wp2_with fail
                refine wp_region_still_tail 21 (by kernel_rfl) (by kernel_rfl) ?_
                simp only [List.take_succ_cons, List.take_zero, List.drop_succ_cons, List.drop_zero]
                repeat still_step
                still_call (mul_nat p c (nthN M k) _ hp1 hp2 hcp hyp)
                repeat still_step
                still_call (sub_nat p (nthN ds j) (fmul p c (nthN M k)) _ hp1 hp2 hdp hfm)
                repeat still_step
                refine wpStill_nil ?_
                go_wp2_with fail
                go_roundw
                case rel => exact ⟨k + 1, _, by omega, by go_num, HS.out, HST2.out, HQ.out, HBB.out.drew⟩
                case measure => simp [intOf]; omega
              · obtain rfl : k = d + 1 := by omega
                have HE := Lib.hid HDS.out.done
                have hn3 : (n : Int) = m + d := by have := HNN.out; omega
                have HN3 := Lib.hid hn3
                have hn4 : m + d < 1048576 := by have := HR5.out; omega
                clear hn3
                go_wp2_with fail
                go_roundw
                case rel =>
                  refine ⟨m, ds, q.set m c, (n : Int) - 1, by go_num, fun h => by have := HN3.out; omega, fun h => by have := HN3.out; omega, by have := HN3.out; omega, by have := HN3.out; omega, .inr ⟨g, rfl, hgb, hrk⟩, hqk, ?_, hbk⟩
                  rw [HE.out]; exact HST.out
                case measure => simp [intOf]; have := HN3.out; omega
end Go.Proofs.Ythbablmgpjjphaa
