/-
  Polynomials: the document's division.
-/
import Derived.Test.YthbablmgpjjphaaPolR
namespace Go.Proofs.Ythbablmgpjjphaa
open Go.RowKit

/-- What a step of the document's division knows. -/
def RefI (p : Nat) (a b : List Nat) (d : Nat) (r q : List Nat) : Prop :=
  (dqN p a b).1 = (dvN p b d (invV p (nthN b d)) (dgN r - d) r q).1 ∧ (∀ k, nthN (dqN p a b).2 k = nthN (dvN p b d (invV p (nthN b d)) (dgN r - d) r q).2 k) ∧
    r.length = a.length ∧ q.length = a.length ∧ (∀ x ∈ r, x < p) ∧ ∀ k, k < dgN r - d → nthN q k = 0
theorem RefI.start {p : Nat} (hp : 1 ≤ p) {a b : List Nat} {d : Nat} (h : dgN b = d + 1) (ha : ∀ x ∈ a, x < p) : RefI p a b d a (List.replicate a.length 0) := by
  have hq := dvN_q (p := p) (b := b) (d := d) (inv := invV p (nthN b d)) (a.length - d) a (List.replicate (a.length - d) 0) (List.replicate a.length 0) (fun k => by rw [nthN_zeros, nthN_zeros]) (by simp) (by simp)
  have hs := dvN_skip hp b d (invV p (nthN b d)) (q := List.replicate a.length 0) ha (dgN a - d) (a.length - d) (by have := dgN_le a; omega) (fun k hk => dgN_above a k (by omega)) (fun k _ => nthN_zeros _ _)
  rw [hs] at hq
  refine ⟨by rw [dqN_d h]; exact hq.1, fun k => by rw [dqN_d h]; exact hq.2 k, rfl, by simp, ha, fun k _ => nthN_zeros _ _⟩
theorem RefI.step {p : Nat} (hp : PrimeN p) {a b : List Nat} {d m : Nat} {r q : List Nat} (hb : ∀ x ∈ b, x < p) (hbd : nthN b d ≠ 0) (h : RefI p a b d r q) (hm : dgN r = m + d + 1) :
    RefI p a b d (stN p b d (fmul p (nthN r (m + d)) (invV p (nthN b d))) m r) (q.set m (fmul p (nthN r (m + d)) (invV p (nthN b d)))) ∧
      dgN (stN p b d (fmul p (nthN r (m + d)) (invV p (nthN b d))) m r) ≤ m + d := by
  have hp1 : 1 ≤ p := by have := hp.1; omega
  obtain ⟨h1, h2, h3, h4, h5, h6⟩ := h
  rw [show dgN r - d = m + 1 by omega] at h1 h2 h6
  have hml : m + d < r.length := by have := dgN_le r; omega
  have hdg : dgN (stN p b d (fmul p (nthN r (m + d)) (invV p (nthN b d))) m r) ≤ m + d := dgN_lt_of fun k hk => by
    by_cases e : k = m + d
    · subst e; exact stN_top hp hb hbd h5 hml
    · rw [stN_out p b d _ m r (by omega)]; exact dgN_above r k (by omega)
  have hl := stN_lt hp1 b d (fmul p (nthN r (m + d)) (invV p (nthN b d))) m h5
  have hq' : ∀ k, k < m → nthN (q.set m (fmul p (nthN r (m + d)) (invV p (nthN b d)))) k = 0 := fun k hk => by rw [nthN_set_other _ _ _ _ (by omega)]; exact h6 k (by omega)
  have hs := dvN_skip hp1 b d (invV p (nthN b d)) hl (dgN (stN p b d (fmul p (nthN r (m + d)) (invV p (nthN b d))) m r) - d) m (by omega) (fun k hk => dgN_above _ k (by omega)) hq'
  refine ⟨⟨?_, fun k => ?_, by rw [stN_len]; exact h3, by rw [List.length_set]; exact h4, hl, fun k hk => hq' k (by omega)⟩, hdg⟩
  · rw [h1, ← hs]; rfl
  · rw [h2 k, ← hs]; rfl
theorem RefI.done {p : Nat} {a b : List Nat} {d : Nat} {r q : List Nat} (h : RefI p a b d r q) (hd : dgN r ≤ d) : (dqN p a b).1 = r ∧ shN (dqN p a b).2 = shN q := by
  obtain ⟨h1, h2, -⟩ := h
  rw [show dgN r - d = 0 by omega] at h1 h2
  exact ⟨h1, shN_ext h2⟩
theorem NatRow.back {w : World} {g : Nat} {A : Option Addr} {L : List Nat} (h : NatRow w g L) (_ : A = some ⟨g, 0, none⟩) : NatsAt w (some ⟨g, 0, none⟩) L := h.nats

set_option maxRecDepth 100000 in
set_option maxHeartbeats 4000000 in
theorem refDivide_any (p : Nat) (A B : Option Addr) (L M : List Nat) (ca cb : Nat) (w : World) (hp : PrimeN p) (hp2 : p ≤ 2147483648) (hA : NatsAt w A L) (hSA : SlOK A ca L) (hB : NatsAt w B M) (hL : ∀ y ∈ L, y < p) (hM : ∀ y ∈ M, y < p)
    (hl : L.length ≤ 1048576) (hm : M.length ≤ 1048576) :
    Calls Try.prog 15 #[.int .i64 p, .slice A L.length ca, .slice B M.length cb] w (DivP (quN p L M) (reN p L M) (diE M) w) := by
  have hp2' := hp.1
  have hp1 : 1 ≤ p := by omega
  have t2 : ((p : Int) == 0) = false := by simp; omega
  have t3 : ¬ (p : Int) = 0 := by omega
  have t6 : ¬ p = 0 := by omega
  have HB := Lib.hid hB
  obtain ⟨hg1, hg2⟩ := dgI_ge M
  have HDG := Lib.hid (dgI_succ M)
  by_cases h0 : dgN M = 0
  · have hR := di_no (p := p) (a := L) h0
    rw [hR.1, hR.2.1, hR.2.2]
    have hd1 : dgI M = -1 := by have := HDG.out; omega
    have hdg := refDegree_any B M cb w hB (by omega)
    rw [hd1] at hdg
    have HC := Lib.hid hdg
    clear h0 hR hd1 hdg hA hSA hB hL hM hg1 hg2 HDG hp
    go_enter Try.func15, Try.ntmps15
    go_wp2_with fail
    refine ret_pure HC.out ?_
    go_wp2_with fail
    go_ret3
    exact DivP.nil _ (Below.refl _ _)
  · have hR := di_ok (p := p) (a := L) h0
    rw [hR.1, hR.2.1, hR.2.2]
    obtain ⟨d, hd⟩ : ∃ d, dgN M = d + 1 := ⟨dgN M - 1, by omega⟩
    have hdi : dgI M = (d : Int) := by have := HDG.out; omega
    have hdl : d < M.length := by have := dgN_le M; omega
    have hbd0 : nthN M d ≠ 0 := by have := dgN_top M (by omega); rw [hd] at this; exact this
    have hdg := refDegree_any B M cb w hB (by omega)
    rw [hdi] at hdg
    have HC := Lib.hid hdg
    have HI0 := Lib.hid (RefI.start hp1 (a := L) hd hL)
    have HSTEP := Lib.hid (fun (m : Nat) (r q : List Nat) (h : RefI p L M d r q) (hm : dgN r = m + d + 1) => h.step hp hM hbd0 hm)
    have HM := Lib.hid (nthN_lt hp1 hM)
    have HP := Lib.hid hp
    have hlz : (0 : Int) ≤ (L.length : Int) := by omega
    rcases A with _ | ⟨bA, oA, sA⟩
    · obtain ⟨rfl, rfl⟩ := hSA.empty rfl
      have hE := HI0.out.done (Nat.zero_le _)
      have HE1 := Lib.hid (show shN (dqN p [] M).1 = [] by rw [hE.1]; rfl)
      have HE2 := Lib.hid (show shN (dqN p [] M).2 = [] by rw [hE.2]; rfl)
      have hdm : decide ((d : Int) ≤ -1) = false := decide_eq_false (by omega)
      clear h0 hR hdi hdg hA hSA hB hL hM hg1 hg2 HDG hd hp hbd0 hE
      go_enter Try.func15, Try.ntmps15
      go_wp2_with fail
      refine ret_pure HC.out ?_
      obtain ⟨bB, oB, rfl, hbB, hcB⟩ := HB.out d hdl
      have hbd := HM.out d
      have i1 : (0 : Int) ≤ (d : Int) := by omega
      have i2 : (d : Int) < (M.length : Int) := by omega
      go_wp2_with fail
      refine ret_pure (refInverse_any p (nthN M d) _ HP.out hp2 hbd) ?_
      go_wp2_with (at_make; refine make_nats rfl _ _ rfl 0 rfl rfl (by rfl) (by omega) ?_; intro w3 hB3 hb3)
      go_wp2_with fail
      refine ret_pure (refDegree_any none [] 0 w3 (NatsAt.nil _ _) (by simp)) ?_
      rw [show dgI ([] : List Nat) = -1 from rfl]
      go_wp2_with fail
      refine wp_loop_rounds 1 ?_
      rw [rounds_succ]
      go_wp2_with fail
      refine (refShort_any (some ⟨w.heap.size, 0, none⟩) [] 0 w3 (NatsAt.nil _ _) (SlOK.own hB3 (by simp)) (by simp)).mono ?_
      intro e w4 hn4
      obtain ⟨A4, c4, rfl, hN4, hS4, -, hb4⟩ := hn4.open_
      go_wp2_with fail
      refine (refShort_any none [] 0 w4 (NatsAt.nil _ _) SlOK.none0 (by simp)).mono ?_
      intro e w5 hn5
      obtain ⟨A5, c5, rfl, hN5, hS5, -, hb5⟩ := hn5.open_
      go_wp2_with fail
      go_ret3
      rw [HE1.out, HE2.out]
      exact ⟨A4, c4, A5, c5, rfl, hN4.below hb5, hS4, hN5, hS5, below_trans hb3 (below_trans hb4 hb5)⟩
    · have hsA : sA = none := hSA.spot _ rfl
      subst hsA
      have HA := Lib.hid hA
      clear h0 hR hdi hdg hA hSA hB hL hM hg1 hg2 HDG hd hp hbd0
      go_enter Try.func15, Try.ntmps15
      go_wp2_with fail
      refine ret_pure HC.out ?_
      obtain ⟨bB, oB, rfl, hbB, hcB⟩ := HB.out d hdl
      have hbd := HM.out d
      have i1 : (0 : Int) ≤ (d : Int) := by omega
      have i2 : (d : Int) < (M.length : Int) := by omega
      go_wp2_with fail
      refine ret_pure (refInverse_any p (nthN M d) _ HP.out hp2 hbd) ?_
      have hiv := invV_lt hp1 (nthN M d)
      clear hcB
      go_wp2_with (first
        | (at_builtin; refine app_nats rfl (.const (.slice none 0 0)) (.tmp 30) rfl (base := w.heap.size) (S := []) (T := L) (c := ca) (ad := ⟨bA, oA, none⟩) (v := .slice none 0 0) rfl (World.ownsRow_nil _ _ _ _) rfl (HA.out.news rfl) (by simp; omega) (Nat.le_refl _) ?_; intro v w2 hown2 hg hb2; obtain ⟨A2, c2, rfl, hS2, hR2⟩ := row_of_own (show w2.ownsRow w.heap.size 3 1 v L.length (valsN L) from hown2) rfl; clear hg hown2)
        | (at_make; refine make_nats rfl _ _ rfl L.length rfl rfl (by rfl) (by omega) ?_; intro w3 hB3 hb3))
      have hbw3 := below_trans hb2 hb3
      have hz2 := hb2.size
      have hR3 := hR2.below hb3
      have hg2 : ∀ g, A2 = some ⟨g, 0, none⟩ → 0 < L.length → g ≠ w2.heap.size := fun g e h => by
        rcases hR2 with h' | ⟨g', e', _, h'⟩
        · omega
        · rw [e'] at e; injection e with e; injection e with e; have := h'.lt; omega
      have HG2 := Lib.hid hg2
      clear hR2 hg2 hb3 hb2
      go_wp2_with fail
      refine ret_pure (refDegree_any A2 L c2 w3 hR3.nats (by omega)) ?_
      go_wp2_with fail
      go_loopw [14] (fun i wr => ∃ (r q : List Nat), i = .int .i64 (dgI r) ∧ RowAt wr w.heap.size A2 r ∧ NatBlk wr w2.heap.size q ∧ RefI p L M d r q ∧ Below w.heap.size w wr)
        (fun i _ => (intOf i + 1).toNat)
      case atStart => exact ⟨L, _, rfl, hR3, hB3, HI0.out, hbw3⟩
      case round =>
        obtain ⟨r, q, rfl, hr, hq, hri, hbr⟩ := hrel
        have HRI := Lib.hid hri
        have HRR := Lib.hid hr
        have HRL := Lib.hid hri.2.2.1
        have HQL := Lib.hid hri.2.2.2.1
        have hdr1 := dgN_le r
        have HDR := Lib.hid (dgI_succ r)
        obtain ⟨hdr2, hdr3⟩ := dgI_ge r
        clear hr hri hR3 hB3
        by_cases hlt : dgN r ≤ d
        · have t1 : decide ((d : Int) ≤ dgI r) = false := decide_eq_false (by have := HDR.out; omega)
          have hdn := HRI.out.done hlt
          have hrl := HRL.out
          have hql := HQL.out
          have hsq := refShort_any _ q q.length wr hq.nats (SlOK.own hq (by unfold maxLen; omega)) (by omega)
          rw [hql] at hsq
          have HSQ := Lib.hid hsq
          have hsr := fun (w' : World) (hb : Below wr.heap.size wr w') => refShort_any A2 r c2 w' (HRR.out.nats.below hb) ⟨by rw [hrl]; exact hS2.len, hS2.cap, hS2.nil, hS2.spot⟩ (by omega)
          rw [hrl] at hsr
          have HSR := Lib.hid hsr
          have HD1 := Lib.hid hdn.1
          have HD2 := Lib.hid hdn.2
          clear hrl hql hdn hsq hsr
          go_wp2_with fail
          refine HSQ.out.mono ?_
          intro e w4 hn4
          obtain ⟨A4, c4, rfl, hN4, hS4, -, hb4⟩ := hn4.open_
          have HN4 := Lib.hid hN4
          have HS4 := Lib.hid hS4
          clear hn4 hN4 hS4
          go_wp2_with fail
          refine (HSR.out w4 hb4).mono ?_
          intro e w5 hn5
          obtain ⟨A5, c5, rfl, hN5, hS5, -, hb5⟩ := hn5.open_
          have HN5 := Lib.hid hN5
          have HS5 := Lib.hid hS5
          clear hn5 hN5 hS5
          go_wp2_with fail
          go_ret3
          rw [HD1.out, HD2.out]
          exact ⟨A4, c4, A5, c5, rfl, HN4.out.below hb5, HS4.out, HN5.out, HS5.out, below_trans hbr (below_trans hb4 hb5)⟩
        · obtain ⟨m, hm⟩ : ∃ m, dgN r = m + d + 1 := ⟨dgN r - d - 1, by omega⟩
          obtain ⟨n, hn⟩ : ∃ n : Nat, n = m + d := ⟨_, rfl⟩
          have hnn : dgI r = (n : Int) := by have := HDR.out; omega
          have HDN := Lib.hid hnn
          rw [hnn]
          have HNN := Lib.hid hn
          have hr5 : m + 1 + d ≤ L.length := by have := HRL.out; omega
          have HR5 := Lib.hid hr5
          have hstp := HSTEP.out m r q HRI.out hm
          rw [← hn] at hstp
          have HST := Lib.hid hstp.1
          have HSD := Lib.hid hstp.2
          obtain ⟨g, hgA, hgb, hrow⟩ : ∃ g, A2 = some ⟨g, 0, none⟩ ∧ w.heap.size ≤ g ∧ NatRow wr g r := by
            rcases HRR.out with h | h
            · have := HRL.out; omega
            · exact h
          subst hgA
          have hne := HG2.out g rfl (by omega)
          have hcc := hrow.cell n (by have := HRL.out; omega)
          have hr4 := nthN_lt hp1 HRI.out.2.2.2.2.1
          have hcl2 := hr4 n
          have HR4 := Lib.hid hr4
          have hql2 : m < q.length := by have := HQL.out; omega
          have hqc := hq.cell m hql2
          have hqf := hq.frozen m
          have hcp := fmul_lt hp1 (nthN r n) (invV p (nthN M d))
          have w1 := mul_wrap hcl2 hiv hp2
          have m1 := mul_tmod (p := p) (a := nthN r n) (b := invV p (nthN M d))
          have i3 : (0 : Int) ≤ (n : Int) := by omega
          have i4 : (n : Int) < (L.length : Int) := by omega
          have i4' : (d : Int) ≤ (n : Int) := by omega
          have e1 : (n : Int) - (d : Int) = (m : Int) := by omega
          have HQ1 := Lib.hid (hq.set_ m (fmul p (nthN r n) (invV p (nthN M d))))
          have HR1 := Lib.hid (hrow.other ⟨w2.heap.size, m, none⟩ (.int .i64 (fmul p (nthN r n) (invV p (nthN M d)) : Nat)) hne)
          have HB1 := Lib.hid (hbr.setCell (p := ⟨w2.heap.size, m, none⟩) hz2 (.int .i64 (fmul p (nthN r n) (invV p (nthN M d)) : Nat)))
          have im : (0 : Int) ≤ (m : Int) := by omega
          have im2 : (m : Int) < (L.length : Int) := by omega
          clear hstp hr4 HRR hq hrow hn hnn hr5 hql2 hm hlt hdr1 hdr2 hdr3 hS2 hbw3
          go_wp2_with fail
          generalize fmul p (nthN r n) (invV p (nthN M d)) = c at *
          generalize hwo : wr.setCell ⟨w2.heap.size, m, none⟩ (.int .i64 (c : Nat)) = wo at *
          have hbo := HB1.out
          clear hwo hcc hqc hqf hcl2 e1 hbr hbB w1 m1
          go_loopw [58] (fun j wr => ∃ (k : Nat) (ds : List Nat), k ≤ d + 1 ∧ j = .int .i64 k ∧ NatRow wr g ds ∧ MidS p M c m r k ds ∧ NatBlk wr w2.heap.size (q.set m c) ∧ Below w.heap.size w wr) (fun j _ => d + 1 - (intOf j).toNat)
          case atStart => exact ⟨0, r, by omega, rfl, HR1.out, MidS.start, HQ1.out, hbo⟩
          case round =>
            obtain ⟨k, ds, hk, rfl, hrk, hds, hqk, hbk⟩ := hrel
            have HDS := Lib.hid hds
            clear hds hbo
            by_cases hkd : k < d + 1
            · obtain ⟨bB', oB', e', hbB, hcB⟩ := (HB.out.below hbk) k (by omega)
              injection e' with e'; injection e' with e1 e2; subst e1; subst e2
              obtain ⟨j, hj⟩ : ∃ j, j = m + k := ⟨_, rfl⟩
              have hjl : j < r.length := by have := HRL.out; have := HNN.out; have := HR5.out; omega
              have hdl2 : j < ds.length := by rw [HDS.out.1]; exact hjl
              have HJ := Lib.hid hj
              have e1 : IntKind.i64.wrap ((n : Int) - (d : Int)) = (m : Int) := by have := HNN.out; rw [this]; exact (IntWalk.i64_in _ (by have := HR5.out; omega)).trans (by omega)
              have e2 : IntKind.i64.wrap ((m : Int) + (k : Int)) = (j : Int) := by rw [hj]; exact (IntWalk.i64_in _ (by have := HR5.out; omega)).trans (by push_cast; rfl)
              have hcc := hrk.cell j hdl2
              have hff := hrk.frozen j
              have hdp := HDS.out.lt hp1 HR4.out j
              have hyp := HM.out k
              have hfm := fmul_lt hp1 c (nthN M k)
              have w1 := mul_wrap hcp hyp hp2
              have m1 := mul_tmod (p := p) (a := c) (b := nthN M k)
              have hst := HDS.out.step
              rw [← hj] at hst
              have HST2 := Lib.hid hst
              have HS := Lib.hid (hrk.set_ j (fsub p (nthN ds j) (fmul p c (nthN M k))) hdl2)
              have HQ := Lib.hid (hqk.other ⟨g, j, none⟩ (.int .i64 (fsub p (nthN ds j) (fmul p c (nthN M k)) : Nat)) (fun e => hne e.symm))
              have HBB := Lib.hid (hbk.setCell (p := ⟨g, j, none⟩) hgb (.int .i64 (fsub p (nthN ds j) (fmul p c (nthN M k)) : Nat)))
              have i5 : (0 : Int) ≤ (j : Int) := by omega
              have i6 : (j : Int) < (L.length : Int) := by have := HRL.out; omega
              have i7 : (0 : Int) ≤ (k : Int) := by omega
              have i8 : (k : Int) < (M.length : Int) := by omega
              clear hst hj hjl hdl2 hne
              go_wp2_with fail
              refine wp_region_still_tail 25 (by kernel_rfl) (by kernel_rfl) ?_
              simp only [List.take_succ_cons, List.take_zero, List.drop_succ_cons, List.drop_zero]
              repeat still_step
              still_call (refSub_nat p (nthN ds j) (fmul p c (nthN M k)) _ hp1 hp2 hdp hfm)
              repeat still_step
              refine wpStill_nil ?_
              go_wp2_with fail
              go_roundw
              case rel => exact ⟨k + 1, _, by omega, by go_num, HS.out, HST2.out, HQ.out, HBB.out.drew⟩
              case measure => simp [intOf]; omega
            · obtain rfl : k = d + 1 := by omega
              have hE := HDS.out.done
              have HST3 : Hid (RefI p L M d ds (q.set m c)) := by rw [hE]; exact HST.out
              have HSD3 : Hid (dgN ds ≤ n) := by rw [hE]; exact HSD.out
              have hdl3 : ds.length ≤ 1073741824 := by rw [HDS.out.1, HRL.out]; omega
              have HD4 := Lib.hid (dgI_succ ds)
              have hna := hrk.nats
              clear hE
              go_wp2_with fail
              refine ret_pure (by have := refDegree_any (some ⟨g, 0, none⟩) ds c2 wr hna hdl3; rw [HST3.out.2.2.1] at this; exact this) ?_
              go_wp2_with fail
              go_roundw
              case rel => exact ⟨ds, _, rfl, .inr ⟨g, rfl, hgb, hrk⟩, hqk, HST3.out, hbk⟩
              case measure => have := HD4.out; have := HSD3.out; simp [intOf]; omega
end Go.Proofs.Ythbablmgpjjphaa
