/-
  Shares: the comparison of equal lists; sums of two lists.
  Refresh: what the functions say of lists that all holders have; the sanity check.
  Refresh: sums of zeros; the order of sums.
  RefreshOrders: the walk.
  A slice of numbers that came in reads as a list.
  Conditions: those that each theorem names.
-/
import Derived.Test.YtlhipgejiacklaaDoorM5
namespace Go.Proofs.YtlhipgejiacklaaDoor
open Go.RowKit

set_option maxRecDepth 100000 in
set_option maxHeartbeats 4000000 in
theorem same_sh {P P' : Nat → Prop} (A A' : Option Addr) (S : List Shr) (c c' k k' : Nat) (w : World) (hA : ShP P w A c S) (hA' : ShP P' w A' c' S) (hsh : Short S) (hl : S.length ≤ 1048576) (hk : k = S.length) (hk' : k' = S.length) :
    Calls Tryd.prog 30 #[.slice A k c, .slice A' k' c'] w (RetB (.bool true) w) := by
  subst hk
  have hkk : k' = S.length := hk'
  subst hkk
  have HA := Lib.hid hA
  have HA' := Lib.hid hA'
  have HSH := Lib.hid hsh
  have t0 : ((S.length : Int) != (S.length : Int)) = false := by simp
  clear hA hA' hsh hk'
  go_enter Tryd.func30, Tryd.ntmps30
  go_wp2_with fail
  go_loopw [14] (fun i wr => ∃ k : Nat, k ≤ S.length ∧ i = .int .i64 k ∧ Below w.heap.size w wr) (fun i _ => S.length - (intOf i).toNat)
  case atStart => exact ⟨0, Nat.zero_le _, rfl, Below.refl _ _⟩
  case round =>
    obtain ⟨k, hk, rfl, hbr⟩ := hrel
    by_cases hlt : k < S.length
    · obtain ⟨b, off, B, c1, rfl, hb, -, x0, x1, x2⟩ := (HA.out.below hbr).at_ k hlt
      obtain ⟨b', off', B', c1', rfl, hb', -, y0, y1, y2⟩ := (HA'.out.below hbr).at_ k hlt
      have hvl := HSH.out k hlt
      have i1 : (0 : Int) ≤ (k : Int) := by omega
      have i2 : (k : Int) < (S.length : Int) := by omega
      generalize vS S k = L at *
      generalize hS S k = x at *
      have HX := Lib.hid x2
      have HY := Lib.hid y2
      have t1 : (x != x) = false := by simp
      clear x2 y2
      go_wp2_with fail
      refine gen_world fun w1 hw1 => ?_
      have hb1 : Below wr.heap.size wr w1 := by rw [hw1]; exact below_alloc _ _
      have hsc : ShCell w1 wr.heap.size x (.slice B L.length c1) := by rw [hw1]; exact ShCell.new _ _ rfl
      have s0 := hsc.c0
      have s1 := hsc.c1
      have z0 := (hb1.cell (p := ⟨b', off' + k * 2, none⟩) hb').trans y0
      have z1 := (hb1.cell (p := ⟨b', off' + k * 2 + 1, none⟩) hb').trans y1
      have HX1 := Lib.hid ((HX.out.keep (Kept.below hb1)).ints)
      have HY1 := Lib.hid ((HY.out.keep (Kept.below hb1)).ints)
      have hbw := hbr.trans (hb1.mono hbr.size)
      clear hw1 hsc x0 x1 y0 y1
      go_quiet ((go_at_call 29; exact Calls.quiet_of_same (same_refl B B' L c1 c1' _ HX1.out HY1.out (by omega))))
      go_wp2_with fail
      go_roundw
      case rel => exact ⟨k + 1, by omega, by go_num, below_drewN hbw _⟩
      case measure => simp [intOf]; omega
    · go_wp2_with fail
      go_ret
      exact RetB.bool rfl hbr

/-! ### Sums of two lists in order -/
theorem fmul_one {p x : Nat} (h : x < p) : fmul p 1 x = x := by unfold fmul; rw [Nat.one_mul, Nat.mod_eq_of_lt h]
theorem lin_sumV {p : Nat} (hp : 1 ≤ p) {L M : List Nat} (h : L.length = M.length) : linN p L M 1 = sumV p L M 1 := by
  refine extN (by rw [linN_len, sumV_len h, h]; simp) fun i hi => ?_
  rw [linN_len] at hi
  rw [linN_nth hi, sumV_nth hp h (by omega)]
def InOrd (N : List ShN) : Prop := ∀ k, k < N.length → hN N k = k + 1
theorem deal_ord (p n h : Nat) (sec ran : List Nat) : InOrd (dealN p n h sec ran) := fun k hk => by
  rw [deal_len] at hk
  unfold dealN
  rw [(dealtT_at hk).1]
/-- Each share of N and the one of M at the same place. -/
def plusT (p : Nat) (N M : List ShN) : List ShN := (List.range N.length).map fun k => (hN N k, linN p (vN N k) (vN M k) 1)
theorem plusT_len (p : Nat) (N M : List ShN) : (plusT p N M).length = N.length := by simp [plusT]
theorem plusT_at {p k : Nat} {N M : List ShN} (h : k < N.length) : hN (plusT p N M) k = hN N k ∧ vN (plusT p N M) k = linN p (vN N k) (vN M k) 1 := by
  simp [plusT, hN, vN, List.getD_eq_getElem?_getD, h]
theorem plusT_ord {p : Nat} {N M : List ShN} (h : InOrd N) : InOrd (plusT p N M) := fun k hk => by
  rw [plusT_len] at hk
  rw [(plusT_at hk).1]; exact h k hk
/-- What is known of shares of a list that all holders have, in order. -/
structure Full (p n h : Nat) (sec : List Nat) (N : List ShN) : Prop where
  made : Made p n h sec N
  ord : InOrd N
  len : N.length = h
theorem Full.deal {p n h : Nat} {sec ran : List Nat} (P : PlanN p n h) (hs : ∀ x ∈ sec, x < p) (hr : ∀ x ∈ ran, x < p) : Full p n h sec (dealN p n h sec ran) :=
  ⟨deal_Made P hs hr, deal_ord _ _ _ _ _, deal_len _ _ _ _ _⟩
theorem Made.good {p n h : Nat} {sec : List Nat} {N : List ShN} (H : Made p n h sec N) (hp : 1 ≤ p) (hm : sec.length ≤ 2048) : GoodN p h N := by
  obtain ⟨F, h1, h2, h3⟩ := H.ex
  exact h1.good hp hm
theorem Made.vlen {p n h : Nat} {sec : List Nat} {N : List ShN} (H : Made p n h sec N) {k : Nat} (hk : k < N.length) : (vN N k).length = sec.length := by
  obtain ⟨F, h1, h2, h3⟩ := H.ex
  rw [(h1.at_ hk).2.2]; simp
theorem plus_add {p : Nat} {N M : List ShN} (hp : 1 ≤ p) (hl : ∀ k, k < N.length → (vN N k).length = (vN M k).length) : plusT p N M = addT p 1 N M := by
  unfold plusT addT
  refine List.map_congr_left fun k hk => ?_
  have hk := List.mem_range.1 hk
  rw [lin_sumV hp (hl k hk)]
theorem Full.plus {p n h : Nat} {a b : List Nat} {N M : List ShN} (P : PlanN p n h) (H : Full p n h a N) (K : Full p n h b M) (hab : a.length = b.length) : Full p n h (linN p a b 1) (plusT p N M) := by
  have hl : M.length = N.length := K.len.trans H.len.symm
  have e : plusT p N M = addT p 1 N M := plus_add P.p1 (fun k hk => by rw [H.made.vlen hk, K.made.vlen (by omega), hab])
  refine ⟨by rw [e]; exact H.made.add P.p1 K.made hab hl (fun k hk => by rw [H.ord k hk, K.ord k (by omega)]), plusT_ord H.ord, by rw [plusT_len, H.len]⟩
theorem lin_zero {p : Nat} {a : List Nat} (h : ∀ x ∈ a, x < p) : linN p a (List.replicate a.length 0) 1 = a := by
  refine extN (by rw [linN_len]; simp) fun i hi => ?_
  rw [linN_len] at hi
  rw [linN_nth hi]
  have hi' : i < a.length := by simpa using hi
  have : nthN (List.replicate a.length 0) i = 0 := by simp [nthN, List.getD_eq_getElem?_getD, hi']
  rw [this]
  unfold fadd fmul
  rw [Nat.mul_zero, Nat.zero_mod, Nat.add_zero, Nat.mod_eq_of_lt (h _ (nthN_mem hi'))]
end Go.Proofs.YtlhipgejiacklaaDoor
namespace Go.Proofs.YtlhipgejiacklaaDoor
open Go.RowKit

theorem Full.gd {p n h : Nat} {a : List Nat} {N : List ShN} (H : Full p n h a N) (hp : 1 ≤ p) (hm : a.length ≤ 2048) : gdB p h (shL N) = true := (gdB_yes (gd_back (H.made.good hp hm))).symm
theorem Full.short {p n h : Nat} {a : List Nat} {N : List ShN} (H : Full p n h a N) (hm : a.length ≤ 1048576) : Short (shL N) := H.made.short hm
theorem ap_full {p n h : Nat} {a b : List Nat} {N M : List ShN} (P : PlanN p n h) (H : Full p n h a N) (K : Full p n h b M) (hab : a.length = b.length) (hm : a.length ≤ 2048) :
    aE p h (shL N) (shL M) = 0 ∧ aT p h (shL N) (shL M) = plusT p N M := by
  have hl : M.length = N.length := K.len.trans H.len.symm
  have gM := K.made.good P.p1 (by omega)
  have hix : ∀ k, k < N.length → hasH M (hN N k) = true ∧ apI M (hN N k) = k := fun k hk => by
    have := apI_of gM (show k < M.length by omega)
    rw [K.ord k (by omega), ← H.ord k hk] at this; exact this
  have hok : apOk N M = true := by
    unfold apOk anyN
    rw [Bool.not_eq_true', List.any_eq_false]
    intro k hk
    simp [(hix k (List.mem_range.1 hk)).1]
  have hq : N.length = 0 ∨ (vN N 0).length = (vN M 0).length := by
    rcases Nat.eq_zero_or_pos N.length with h0 | h0
    · exact .inl h0
    · exact .inr (by rw [H.made.vlen h0, K.made.vlen (by omega), hab])
  have he : apE N M = 0 := by unfold apE; rw [if_pos hok, if_pos hq]
  have hE : aE p h (shL N) (shL M) = 0 := by unfold aE; rw [H.gd P.p1 hm, K.gd P.p1 (by omega), natL_shL, natL_shL]; exact he
  refine ⟨hE, ?_⟩
  unfold aT
  rw [if_pos hE, natL_shL, natL_shL]
  unfold apT plusT
  refine List.map_congr_left fun k hk => ?_
  rw [(hix k (List.mem_range.1 hk)).2]
theorem apply_full {P P' : Nat → Prop} {p n h : Nat} {a b : List Nat} {N M : List ShN} (PN : PlanN p n h) (H : Full p n h a N) (K : Full p n h b M) (hab : a.length = b.length) (hm : a.length ≤ 2048) (A B : Option Addr) (ca cb : Nat) (w : World) (hB : Bases w) (hA : ShP P w A ca (shL N)) (hM : ShP P' w B cb (shL M)) :
    Calls Tryd.prog 25 #[planV p n h, .slice A h ca, .slice B h cb] w (DealR (plusT p N M) h w) := by
  have := apply_any p n h A B ca cb h h (shL N) (shL M) w PN hB hA hM (H.short (by omega)) (K.short (by omega)) (by rw [shL_len, H.len]) (by rw [shL_len, K.len]) (by rw [shL_len, H.len]; have := PN.h7; omega) (by rw [shL_len, K.len]; have := PN.h7; omega)
  obtain ⟨e1, e2⟩ := ap_full PN H K hab hm
  rw [e1, e2] at this
  refine this.mono ?_
  rintro e w' ⟨A', c', rfl, h1, h2⟩
  exact ⟨A', c', by rw [shL_len, plusT_len, H.len], h1, h2⟩
theorem checks_full {P : Nat → Prop} {p n h : Nat} {b : List Nat} {M : List ShN} (PN : PlanN p n h) (K : Full p n h b M) (hm : b.length ≤ 2048) (B : Option Addr) (cb : Nat) (w : World) (hB : Bases w) (hM : ShP P w B cb (shL M)) :
    Calls Tryd.prog 23 #[planV p n h, .slice B h cb] w (RetB (.bool (b.all fun x => x == 0)) w) := by
  have := checks_any p n h B cb (shL M) w PN.pv hB hM (K.short (by omega)) (by rw [shL_len, K.len]; have := PN.h7; omega)
  obtain ⟨e1, e2⟩ := K.made.cm PN hm (by rw [K.len]; exact PN.nh)
  rw [← ckB_all (K.made.ft PN hm) (by rw [shL_len, K.len]) (ordB_yes (fun k hk => by rw [shL_len] at hk; rw [hS_shL hk, K.ord k hk]; push_cast; rfl)) e1, e2, shL_len, K.len] at this
  exact this
theorem refCombine_made {P : Nat → Prop} {p n h : Nat} {sec : List Nat} {N : List ShN} (H : Made p n h sec N) (PN : PlanN p n h) (A : Option Addr) (c k : Nat) (w : World) (hS : ShP P w A c (shL N)) (hm : sec.length ≤ 2048) (hl : N.length ≤ 1048576) (hk : k = N.length) (hn : n ≤ N.length) :
    Calls Tryd.prog 27 #[planV p n h, .slice A k c] w (ListErr sec 0 w) := by
  have h1 := H.cm PN hm hn
  have := refCombine_any p n h A c (shL N) w PN.pv hS (H.short (by omega)) (by rw [shL_len]; exact hl)
  rw [h1.1, h1.2, shL_len, ← hk] at this
  exact this
theorem refFits_made {P : Nat → Prop} {p n h : Nat} {sec : List Nat} {N : List ShN} (H : Made p n h sec N) (PN : PlanN p n h) (A : Option Addr) (c k : Nat) (w : World) (hS : ShP P w A c (shL N)) (hm : sec.length ≤ 2048) (hl : N.length ≤ 1048576) (hk : k = N.length) :
    Calls Tryd.prog 26 #[planV p n h, .slice A k c] w (RetB (.bool true) w) := by
  have h1 := H.ft PN hm
  have := refFits_any p n h A c (shL N) w PN.pv hS (H.short (by omega)) (by rw [shL_len]; exact hl)
  rw [h1, shL_len, ← hk] at this
  exact this
theorem plan_732 : PlanN 7 2 3 := PlanN.mk' prime_7 (by omega) (by omega) (by omega) (by omega) (by omega)
def zaN : List ShN := dealN 7 2 3 (List.replicate 1 0) [2]
def laN : List ShN := dealN 7 2 3 [3] [1]
theorem za_full : Full 7 2 3 (List.replicate 1 0) zaN := Full.deal plan_732 (by simp) (by simp)
theorem la_full : Full 7 2 3 [3] laN := Full.deal plan_732 (by simp) (by simp)
theorem lz_full : Full 7 2 3 [3] (plusT 7 laN zaN) := by
  have := la_full.plus plan_732 za_full (by simp)
  rw [show linN 7 [3] (List.replicate 1 0) 1 = [3] from by decide +kernel] at this
  exact this
set_option maxRecDepth 100000 in
set_option maxHeartbeats 4000000 in
theorem awake8 (w : World) (hB : Bases w) : Calls Tryd.prog 14 #[] w (RetB (.bool true) w) := by
  have HB := Lib.hid hB
  have HZ := Lib.hid (fun (W : World) (B : Option Addr) (h1 : Below w.heap.size w W) (h2 : NatsAt W B [2]) (h3 : SlOK B 1 [2]) => show Calls Tryd.prog 20 #[planV 7 2 3, .int .i64 1, .slice B 1 1] W (DealR zaN 3 W) from
    zero_made 7 2 3 1 1 plan_732 (by omega) B 1 [2] W (hB.below h1 hB.1) h2 h3 (by simp) (by simp) (by simp) (by simp))
  have HD := Lib.hid (fun (W : World) (A B : Option Addr) (h1 : NatsAt W A [3]) (h2 : NatsAt W B [1]) (h3 : SlOK B 1 [1]) => show Calls Tryd.prog 31 #[planV 7 2 3, .slice A 1 1, .slice B 1 1] W (DealR laN 3 W) from
    refDeal_made plan_732 h1 h2 h3 (by simp) (by simp) (by simp) (by simp) (by simp) (by simp) (by simp))
  have HAP := Lib.hid (fun (W : World) (h0 : Below w.heap.size w W) (A B : Option Addr) (ca cb : Nat) (P P' : Nat → Prop) (h1 : ShP P W A ca (shL laN)) (h2 : ShP P' W B cb (shL zaN)) => show Calls Tryd.prog 25 #[planV 7 2 3, .slice A 3 ca, .slice B 3 cb] W (DealR (plusT 7 laN zaN) 3 W) from
    apply_full plan_732 la_full za_full (by simp) (by simp) A B ca cb W (hB.below h0 hB.1) h1 h2)
  have HCO := Lib.hid (fun (W : World) (A : Option Addr) (ca : Nat) (P : Nat → Prop) (h1 : ShP P W A ca (shL (plusT 7 laN zaN))) => show Calls Tryd.prog 27 #[planV 7 2 3, .slice A 3 ca] W (ListErr [3] 0 W) from
    refCombine_made lz_full.made plan_732 A ca 3 W h1 (by simp) (by rw [lz_full.len]; omega) lz_full.len.symm (by rw [lz_full.len]; omega))
  have HCK := Lib.hid (fun (W : World) (h0 : Below w.heap.size w W) (B : Option Addr) (cb : Nat) (P : Nat → Prop) (h1 : ShP P W B cb (shL zaN)) => show Calls Tryd.prog 23 #[planV 7 2 3, .slice B 3 cb] W (RetB (.bool true) W) from by
    have := checks_full plan_732 za_full (by simp) B cb W (hB.below h0 hB.1) h1
    exact this)
  clear hB
  go_enter Tryd.func14, Tryd.ntmps14
  go_wp2_with fail
  refine gen_calls fun w1 hw1 => ?_
  have hpc1 : PlanCell w1 w.heap.size 7 2 3 := by rw [hw1]; exact (PlanCell.new _ _ _ rfl).alloc _
  have hnb : NatBlk w1 (w.heap.size + 1) [2] := by rw [hw1]; exact lit1_at _ _ _ (by simp)
  have hb1 : Below w.heap.size w w1 := by rw [hw1]; exact bl_alloc _ (below_alloc _ _)
  clear hw1
  refine (HZ.out _ _ hb1 hnb.nats (SlOK.own hnb (by unfold maxLen; simp))).mono ?_
  rintro e w2 ⟨ZA, zc, rfl, hZ, hb2⟩
  have hpc2 := hpc1.below hb2
  have hbw2 := below_trans hb1 hb2
  have hz2 := hbw2.size
  have p0 := hpc2.c0
  have p1 := hpc2.c1
  have p2 := hpc2.c2
  have HZZ := Lib.hid hZ
  clear hpc1 hnb hb1 hb2 hZ
  go_wp2_with fail
  refine gen_calls fun w3 hw3 => ?_
  have hb3 : Below w2.heap.size w2 w3 := by rw [hw3]; exact bl_alloc _ (below_alloc _ _)
  have hn3 : NatBlk w3 w2.heap.size [3] := by rw [hw3]; exact (lit1_nats w2 3).below (below_alloc _ _)
  have hn1 : NatBlk w3 (w2.heap.size + 1) [1] := by rw [hw3]; exact lit1_at _ _ _ (by simp)
  clear hw3
  refine (HD.out _ _ _ hn3.nats hn1.nats (SlOK.own hn1 (by unfold maxLen; simp))).mono ?_
  rintro e w4 ⟨LA, lc, rfl, hL, hb4⟩
  have hb24 := below_trans hb3 hb4
  have hpc4 := hpc2.below hb24
  have hbw4 := below_trans hbw2 hb24
  have q0 := hpc4.c0
  have q1 := hpc4.c1
  have q2 := hpc4.c2
  have HZ4 := Lib.hid (HZZ.out.below hb24)
  have HL4 := Lib.hid hL
  clear hpc2 hn3 hn1 hb3 hb4 hL p0 p1 p2 hb24
  go_wp2_with fail
  refine (HAP.out _ hbw4 _ _ _ _ _ _ HL4.out HZ4.out).mono ?_
  rintro e w5 ⟨MA, mc, rfl, hM, hb5⟩
  have hpc5 := hpc4.below hb5
  have hbw5 := below_trans hbw4 hb5
  have r0 := hpc5.c0
  have r1 := hpc5.c1
  have r2 := hpc5.c2
  have HZ5 := Lib.hid (HZ4.out.below hb5)
  have HM5 := Lib.hid hM
  clear hpc4 hb5 hM q0 q1 q2 HL4
  go_wp2_with fail
  refine (HCO.out _ _ _ _ HM5.out).mono ?_
  rintro e w6 ⟨XA, xc, rfl, hX, -, -, hb6⟩
  have hpc6 := hpc5.below hb6
  have hbw6 := below_trans hbw5 hb6
  have s0 := hpc6.c0
  have s1 := hpc6.c1
  have s2 := hpc6.c2
  have HZ6 := Lib.hid (HZ5.out.below hb6)
  obtain ⟨xb, xo, rfl, hxl, x0⟩ := hX 0 (by simp)
  simp [nthN] at x0
  clear hpc5 hb6 hX r0 r1 r2 HM5
  go_wp2_with fail
  refine ret_below (HCK.out _ hbw6 _ _ _ HZ6.out) fun w7 hb7 => ?_
  have x7 := (hb7.cell (p := ⟨xb, xo, none⟩) hxl).trans x0
  clear x0 s0 s1 s2
  go_wp2_with fail
  go_ret
  exact RetB.bool rfl (below_trans hbw6 hb7)
end Go.Proofs.YtlhipgejiacklaaDoor
namespace Go.Proofs.YtlhipgejiacklaaDoor
open Go.RowKit

theorem lin_zeros {p m : Nat} (hp : 1 ≤ p) : linN p (List.replicate m 0) (List.replicate m 0) 1 = List.replicate m 0 := by
  have := lin_zero (p := p) (a := List.replicate m 0) (fun x hx => by rw [(List.mem_replicate.1 hx).2]; omega)
  rw [List.length_replicate] at this; exact this
theorem Full.plus0 {p n h m : Nat} {N M : List ShN} (P : PlanN p n h) (H : Full p n h (List.replicate m 0) N) (K : Full p n h (List.replicate m 0) M) : Full p n h (List.replicate m 0) (plusT p N M) := by
  have := H.plus P K rfl
  rw [lin_zeros P.p1] at this; exact this
theorem Full.plusZ {p n h : Nat} {a : List Nat} {N M : List ShN} (P : PlanN p n h) (H : Full p n h a N) (K : Full p n h (List.replicate a.length 0) M) (ha : ∀ x ∈ a, x < p) : Full p n h a (plusT p N M) := by
  have := H.plus P K (by rw [List.length_replicate])
  rw [lin_zero ha] at this; exact this
/-- The sum of several lists of zeros. -/
def sumN (p : Nat) : List ShN → List (List ShN) → List ShN
  | N, [] => N
  | N, M :: r => sumN p (plusT p N M) r
theorem sum_zeros {p n h m : Nat} (P : PlanN p n h) (hm : m ≤ 2048) : ∀ (Ms : List (List ShN)) (N : List ShN), Full p n h (List.replicate m 0) N → (∀ M ∈ Ms, Full p n h (List.replicate m 0) M) →
    sumR p h (shL N) (Ms.map shL) = (shL (sumN p N Ms), 0) ∧ Full p n h (List.replicate m 0) (sumN p N Ms)
  | [], N, H, _ => ⟨rfl, H⟩
  | M :: r, N, H, K => by
    have hM := K M (by simp)
    obtain ⟨e1, e2⟩ := ap_full P H hM rfl (by rw [List.length_replicate]; exact hm)
    have ih := sum_zeros P hm r (plusT p N M) (H.plus0 P hM) (fun X hX => K X (by simp [hX]))
    simp only [List.map_cons, sumR, sumN]
    rw [if_pos e1, e2]
    exact ih
theorem su_zeros {p n h m : Nat} (P : PlanN p n h) (hm : m ≤ 2048) (N : List ShN) (Ms : List (List ShN)) (H : Full p n h (List.replicate m 0) N) (K : ∀ M ∈ Ms, Full p n h (List.replicate m 0) M) :
    suE p h ((N :: Ms).map shL) = 0 ∧ suL p h ((N :: Ms).map shL) = shL (sumN p N Ms) ∧ Full p n h (List.replicate m 0) (sumN p N Ms) := by
  obtain ⟨e1, e2⟩ := sum_zeros P hm Ms N H K
  have hg : gdB p h (lsAt ((N :: Ms).map shL) 0) = true := H.gd P.p1 (by rw [List.length_replicate]; exact hm)
  refine ⟨?_, ?_, e2⟩
  · unfold suE; rw [if_neg (by simp), if_pos hg]
    show (sumR p h (shL N) (Ms.map shL)).2 = 0
    rw [e1]
  · unfold suL; rw [if_neg (by simp), if_pos hg]
    show (sumR p h (shL N) (Ms.map shL)).1 = _
    rw [e1]
theorem sum_full {P : Nat → Prop} {p n h m : Nat} (PN : PlanN p n h) (hm : m ≤ 2048) (N : List ShN) (Ms : List (List ShN)) (H : Full p n h (List.replicate m 0) N) (K : ∀ M ∈ Ms, Full p n h (List.replicate m 0) M) (A : Option Addr) (c kL : Nat) (w : World) (hB : Bases w)
    (hA : ListsP P w A c ((N :: Ms).map shL)) (hk : kL = Ms.length + 1) (hl : Ms.length ≤ 1000) :
    Calls Tryd.prog 24 #[planV p n h, .slice A kL c] w (DealR (sumN p N Ms) h w) := by
  obtain ⟨e1, e2, e3⟩ := su_zeros PN hm N Ms H K
  have hsh : ShortLs ((N :: Ms).map shL) := fun k hk => by
    have hk' : k < (N :: Ms).length := by simpa using hk
    have hF : Full p n h (List.replicate m 0) ((N :: Ms)[k]) := by
      have := List.getElem_mem hk'
      rcases List.mem_cons.1 this with h0 | h0
      · rw [h0]; exact H
      · exact K _ h0
    have : lsAt ((N :: Ms).map shL) k = shL ((N :: Ms)[k]) := by
      unfold lsAt
      rw [List.getD_eq_getElem?_getD, List.getElem?_map, List.getElem?_eq_getElem hk']; rfl
    rw [this]
    exact ⟨hF.short (by rw [List.length_replicate]; omega), by rw [shL_len, hF.len]; have := PN.h7; omega⟩
  have := sum_any p n h A c kL ((N :: Ms).map shL) w PN hB hA hsh (by simp [hk]) (by simp; omega)
  rw [e1, e2] at this
  refine this.mono ?_
  rintro e w' ⟨A', c', rfl, h1, h2⟩
  exact ⟨A', c', by rw [shL_len, e3.len], h1, h2⟩
/-- Two lists in a literal. -/
theorem lists_two {P : Nat → Prop} {w : World} {g h : Nat} {A B : Option Addr} {ca cb : Nat} {N M : List ShN} (hg : w.heap[g]? = some (.cells #[.slice A h ca, .slice B h cb] 31 (0, 0))) (hP : P g) (hA : ShP P w A ca (shL N)) (hB : ShP P w B cb (shL M)) (hN : N.length = h) (hM : M.length = h) :
    ListsP P w (some ⟨g, 0, none⟩) 2 (([N, M]).map shL) := by
  refine ⟨fun k hk => ?_, ⟨Nat.le_refl _, by unfold maxLen; omega, (fun e => by cases e), .inr (fun a e => by injection e with e; subst e; rfl)⟩⟩
  have hk : k = 0 ∨ k = 1 := by simp at hk; omega
  rcases hk with rfl | rfl
  · exact ⟨g, 0, A, ca, rfl, blk_lt hg, hP, by rw [cell_of_row w g _ _ _ (0, 0) hg]; show some _ = some (Value.slice A (shL N).length ca); rw [shL_len, hN]; rfl, hA⟩
  · exact ⟨g, 0, B, cb, rfl, blk_lt hg, hP, by rw [cell_of_row w g _ _ _ (0, 0) hg]; show some _ = some (Value.slice B (shL M).length cb); rw [shL_len, hM]; rfl, hB⟩
theorem fadd_swap (p l a b : Nat) : fadd p l (fmul p 1 (fadd p a (fmul p 1 b))) = fadd p (fadd p l (fmul p 1 b)) (fmul p 1 a) := by
  unfold fadd fmul
  simp only [Nat.one_mul, Nat.add_mod_mod, Nat.mod_add_mod, Nat.mod_mod]
  congr 1; omega
theorem lin_swap {p : Nat} {L A B : List Nat} (h1 : A.length = L.length) (h2 : B.length = L.length) : linN p L (linN p A B 1) 1 = linN p (linN p L B 1) A 1 := by
  refine extN (by simp only [linN_len]; omega) fun i hi => ?_
  have hi' : i < L.length := by simp only [linN_len] at hi; omega
  rw [linN_nth (by simp only [linN_len]; omega), linN_nth (by omega), linN_nth (by simp only [linN_len]; omega), linN_nth (by omega)]
  exact fadd_swap _ _ _ _
theorem plus_swap {p n h : Nat} {s a b : List Nat} {N Z Y : List ShN} (H : Full p n h s N) (K : Full p n h a Z) (J : Full p n h b Y) (h1 : a.length = s.length) (h2 : b.length = s.length) : plusT p N (plusT p Z Y) = plusT p (plusT p N Y) Z := by
  refine shl_ext (by rw [plusT_len, plusT_len, plusT_len]) fun k hk => ?_
  rw [plusT_len] at hk
  have hkZ : k < Z.length := by rw [K.len, ← H.len]; exact hk
  have hkY : k < Y.length := by rw [J.len, ← H.len]; exact hk
  rw [(plusT_at hk).1, (plusT_at hk).2, (plusT_at (show k < (plusT p N Y).length by rw [plusT_len]; exact hk)).1, (plusT_at (show k < (plusT p N Y).length by rw [plusT_len]; exact hk)).2, (plusT_at hk).1, (plusT_at hk).2, (plusT_at hkZ).2]
  exact ⟨rfl, lin_swap (by rw [K.made.vlen hkZ, H.made.vlen hk, h1]) (by rw [J.made.vlen hkY, H.made.vlen hk, h2])⟩
end Go.Proofs.YtlhipgejiacklaaDoor
namespace Go.Proofs.YtlhipgejiacklaaDoor
open Go.RowKit

attribute [local go_sem high] sliced_low
set_option maxRecDepth 100000 in
set_option maxHeartbeats 8000000 in
theorem refreshOrders_walk (A0 : Option Addr) (L0 : List Int) (c0 : Nat) (w : World) (hB : Bases w) (hl0 : L0.length ≤ maxLen) (hI0 : IntsAt w A0 L0) (_ : ∀ n ∈ L0, -9223372036854775808 ≤ n ∧ n ≤ 9223372036854775807) :
    Calls Tryd.prog 4 #[.slice A0 L0.length c0] w (RetB (.bool true) w) := by
  have HB := Lib.hid hB
  clear hB
  by_cases hlight : (L0.length : Int) ≤ 500
  · have hL := light_any A0 L0.length c0 w
    rw [decide_eq_true hlight] at hL
    have HLt := Lib.hid hL
    clear hL hlight
    go_enter Tryd.func4, Tryd.ntmps4
    go_wp2_with fail
    refine ret_pure HLt.out ?_
    clear HLt
    go_wp2_with fail
    refine (roll_any A0 L0 c0 _ hl0 hI0).mono ?_
    rintro e w1 ⟨D, rfl, hDs, hD, hb1⟩
    have hE1 : Env w w1 D L0 := ⟨hD, hDs, hb1⟩
    clear hI0 hD hb1
    go_wp2_with fail
    refine (prime_any D L0 _ hE1.dice).mono ?_
    rintro e w2 ⟨p, rfl, hpp, hp5, -, hD2, hg2⟩
    have hE2 := hE1.next hD2 hg2
    have h2 := hpp.1
    have h1 : 1 ≤ p := by omega
    have hp2 : p ≤ 2147483648 := by omega
    have HPP := Lib.hid hpp
    clear hg2 hD2 hE1 hpp
    go_wp2_with fail
    refine (plan_any D _ p _ hE2.dice h2 hp2).mono ?_
    rintro e w3 ⟨n, h, R3, rfl, ⟨hn1, hnh, hh7, hhp⟩, hD3, hg3⟩
    have hE3 := hE2.next hD3 hg3
    have HPN := Lib.hid (PlanN.mk' HPP.out (by omega) hn1 hnh hh7 hhp)
    clear hD3 hg3 hE2 HPP
    go_wp2_with fail
    refine gen_calls fun w4 hw4 => ?_
    have HP : Hid (PlanCell w4 w3.heap.size p n h) := Lib.hid (by rw [hw4]; exact PlanCell.new _ _ _ rfl)
    have hE : Env w w4 D R3 := hE3.mv (by rw [hw4]; exact below_alloc _ _)
    have hxD : w3.heap.size ≠ D := by have := hE3.lt; omega
    have hlx := HP.out.lt
    have p0 := HP.out.c0
    have p1 := HP.out.c1
    have p2 := HP.out.c2
    generalize w3.heap.size = px at *
    clear hw4 hE3
    refine (dealt_any D _ p n h 2 _ hE.dice HPN.out (by omega) (by omega)).mono ?_
    rintro e w5 ⟨SA, sc, sec, LA, lc, ran, R5, rfl, hDN, hS, hL, hD5, hg5⟩
    replace hE := hE.next hD5 hg5; replace HP := Lib.hid (HP.out.mv hg5 hxD); replace p0 := HP.out.c0; replace p1 := HP.out.c1; replace p2 := HP.out.c2
    have HS := Lib.hid hS
    have HL := Lib.hid hL
    have HDN := Lib.hid hDN
    have hq1 : 1 ≤ sec.length := hDN.lo
    have hq2 : sec.length ≤ 2 := hDN.hi
    have HF := Lib.hid (Full.deal HPN.out hDN.sp hDN.rp)
    obtain ⟨N, hN⟩ : ∃ N, N = dealN p n h sec ran := ⟨_, rfl⟩
    rw [← hN] at HL HF
    clear hDN hS hL hD5 hg5 hN
    go_wp2_with fail
    obtain ⟨rl, hrl⟩ : ∃ rl, rl = sec.length * (n - 1) := ⟨_, rfl⟩
    have hrl2 : rl ≤ 1048576 := by rw [hrl]; have := Nat.mul_le_mul hq2 (show n - 1 ≤ 7 by omega); omega
    have HRN := Lib.hid (fun (W : World) => refRandom_nat p n h sec.length rl W hrl hn1 (by omega) (by omega))
    have HRL := Lib.hid hrl
    clear hrl
    go_region_held3 (fun w' => w'.cell? ⟨px, 0, none⟩ = some (.int .i64 (p : Int)) ∧ w'.cell? ⟨px, 1, none⟩ = some (.int .i64 (n : Int)) ∧ w'.cell? ⟨px, 2, none⟩ = some (.int .i64 (h : Int))) (first | go_keep)
      (first
        | (go_at_call 22; refine ret_below (HRN.out _) ?_; intro waa hb; have hbaa : Below w5.heap.size w5 waa := (below_undrew1 hb); replace hE := hE.mv hbaa; replace HP := Lib.hid (HP.out.below hbaa); replace p0 := HP.out.c0; replace p1 := HP.out.c1; replace p2 := HP.out.c2; replace HS := Lib.hid (HS.out.below hbaa); replace HL := Lib.hid (HL.out.below hbaa))
        | (go_at_call 21; refine (elements_any D _ p rl _ hE.dice h1 hp2 hrl2).mono ?_; intro e wba he; obtain ⟨RAa, rca, raa, RRa, rfl, hrnla, hrpa, hRa, hDba, hgba⟩ := elems_held hE.lt he; have HRNLa := Lib.hid hrnla; clear hrnla; replace hE := hE.next hDba hgba; replace HP := Lib.hid (HP.out.mv hgba hxD); replace p0 := HP.out.c0; replace p1 := HP.out.c1; replace p2 := HP.out.c2; replace HS := Lib.hid (HS.out.mv hgba); replace HL := Lib.hid (HL.out.mv hgba))
        | (go_at_call 20; refine (zero_made p n h sec.length _ HPN.out (by omega) RAa rca raa _ (hE.bases HB.out) hRa.nats hRa.ok (by have := HRNLa.out; omega) hrpa (by exact HRNLa.out.trans HRL.out) rfl).mono ?_; rintro e wca ⟨ZAa, zca, rfl, hZa, hbca⟩; have HZa := Lib.hid (hZa.away hE.lt); replace hE := hE.mv hbca; replace HP := Lib.hid (HP.out.below hbca); replace p0 := HP.out.c0; replace p1 := HP.out.c1; replace p2 := HP.out.c2; replace HS := Lib.hid (HS.out.below hbca); replace HL := Lib.hid (HL.out.below hbca)))
    have HFa := Lib.hid (Full.deal HPN.out (sec := List.replicate sec.length 0) (fun x hx => by rw [(List.mem_replicate.1 hx).2]; omega) hrpa)
    obtain ⟨Za, hza⟩ : ∃ Z, Z = dealN p n h (List.replicate sec.length 0) raa := ⟨_, rfl⟩
    rw [← hza] at HZa HFa
    clear he hRa hrpa hDba hgba hbaa hbca hZa hza HRNLa hb
    go_wp2_with fail
    go_region_held3 (fun w' => w'.cell? ⟨px, 0, none⟩ = some (.int .i64 (p : Int)) ∧ w'.cell? ⟨px, 1, none⟩ = some (.int .i64 (n : Int)) ∧ w'.cell? ⟨px, 2, none⟩ = some (.int .i64 (h : Int))) (first | go_keep)
      (first
        | (go_at_call 22; refine ret_below (HRN.out _) ?_; intro wab hb; have hbab : Below wca.heap.size wca wab := (below_undrew1 hb); replace hE := hE.mv hbab; replace HP := Lib.hid (HP.out.below hbab); replace p0 := HP.out.c0; replace p1 := HP.out.c1; replace p2 := HP.out.c2; replace HS := Lib.hid (HS.out.below hbab); replace HL := Lib.hid (HL.out.below hbab); replace HZa := Lib.hid (HZa.out.below hbab))
        | (go_at_call 21; refine (elements_any D _ p rl _ hE.dice h1 hp2 hrl2).mono ?_; intro e wbb he; obtain ⟨RAb, rcb, rab, RRb, rfl, hrnlb, hrpb, hRb, hDbb, hgbb⟩ := elems_held hE.lt he; have HRNLb := Lib.hid hrnlb; clear hrnlb; replace hE := hE.next hDbb hgbb; replace HP := Lib.hid (HP.out.mv hgbb hxD); replace p0 := HP.out.c0; replace p1 := HP.out.c1; replace p2 := HP.out.c2; replace HS := Lib.hid (HS.out.mv hgbb); replace HL := Lib.hid (HL.out.mv hgbb); replace HZa := Lib.hid (HZa.out.mv hgbb))
        | (go_at_call 20; refine (zero_made p n h sec.length _ HPN.out (by omega) RAb rcb rab _ (hE.bases HB.out) hRb.nats hRb.ok (by have := HRNLb.out; omega) hrpb (by exact HRNLb.out.trans HRL.out) rfl).mono ?_; rintro e wcb ⟨ZAb, zcb, rfl, hZb, hbcb⟩; have HZb := Lib.hid (hZb.away hE.lt); replace hE := hE.mv hbcb; replace HP := Lib.hid (HP.out.below hbcb); replace p0 := HP.out.c0; replace p1 := HP.out.c1; replace p2 := HP.out.c2; replace HS := Lib.hid (HS.out.below hbcb); replace HL := Lib.hid (HL.out.below hbcb); replace HZa := Lib.hid (HZa.out.below hbcb)))
    have HFb := Lib.hid (Full.deal HPN.out (sec := List.replicate sec.length 0) (fun x hx => by rw [(List.mem_replicate.1 hx).2]; omega) hrpb)
    obtain ⟨Zb, hzb⟩ : ∃ Z, Z = dealN p n h (List.replicate sec.length 0) rab := ⟨_, rfl⟩
    rw [← hzb] at HZb HFb
    clear he hRb hrpb hDbb hgbb hbab hbcb hZb hzb HRNLb hb
    go_wp2_with fail
    have hrep : (List.replicate sec.length 0).length = sec.length := List.length_replicate
    have HREP := Lib.hid hrep
    clear hrep
    refine gen_calls fun w6 hw6 => ?_
    have hb6 : Below wcb.heap.size wcb w6 := by rw [hw6]; exact below_alloc _ _
    have hlo : w6.heap[wcb.heap.size]? = some (.cells #[.slice ZAa h zca, .slice ZAb h zcb] 31 (0, 0)) := by rw [hw6]; exact heap_alloc_new wcb _
    clear hw6
    replace hE := hE.mv hb6; replace HP := Lib.hid (HP.out.below hb6); replace p0 := HP.out.c0; replace p1 := HP.out.c1; replace p2 := HP.out.c2; replace HS := Lib.hid (HS.out.below hb6); replace HL := Lib.hid (HL.out.below hb6); replace HZa := Lib.hid (HZa.out.below hb6); replace HZb := Lib.hid (HZb.out.below hb6)
    have hLs := lists_two (P := fun _ => True) hlo trivial HZa.out.any HZb.out.any HFa.out.len HFb.out.len
    refine (sum_full HPN.out (by omega) Za [Zb] HFa.out (fun M hM => by rw [List.mem_singleton.1 hM]; exact HFb.out) _ 2 2 _ (hE.bases HB.out) hLs rfl (by simp)).mono ?_
    rintro e w7 ⟨TA, tc, rfl, hT, hb7⟩
    have HT := Lib.hid (hT.away hE.lt)
    have HFT := Lib.hid (show Full p n h (List.replicate sec.length 0) (sumN p Za [Zb]) from HFa.out.plus0 HPN.out HFb.out)
    replace hE := hE.mv hb7; replace HP := Lib.hid (HP.out.below hb7); replace p0 := HP.out.c0; replace p1 := HP.out.c1; replace p2 := HP.out.c2; replace HS := Lib.hid (HS.out.below hb7); replace HL := Lib.hid (HL.out.below hb7); replace HZa := Lib.hid (HZa.out.below hb7); replace HZb := Lib.hid (HZb.out.below hb7)
    clear hLs hlo hb6 hb7 hT
    go_wp2_with fail
    refine (apply_full HPN.out HF.out HFT.out HREP.out.symm (by omega) LA TA lc tc _ (hE.bases HB.out) HL.out HT.out).mono ?_
    rintro e w8 ⟨XA, xc, rfl, hX, hbx⟩
    have HX := Lib.hid (hX.away hE.lt)
    replace hE := hE.mv hbx; replace HP := Lib.hid (HP.out.below hbx); replace p0 := HP.out.c0; replace p1 := HP.out.c1; replace p2 := HP.out.c2; replace HS := Lib.hid (HS.out.below hbx); replace HL := Lib.hid (HL.out.below hbx); replace HZa := Lib.hid (HZa.out.below hbx); replace HZb := Lib.hid (HZb.out.below hbx); replace HT := Lib.hid (HT.out.below hbx)
    clear hX hbx
    go_wp2_with fail
    refine (apply_full HPN.out HF.out HFb.out HREP.out.symm (by omega) LA ZAb lc zcb _ (hE.bases HB.out) HL.out HZb.out).mono ?_
    rintro e w9 ⟨YA, yc, rfl, hX, hbx⟩
    have HY := Lib.hid (hX.away hE.lt)
    replace hE := hE.mv hbx; replace HP := Lib.hid (HP.out.below hbx); replace p0 := HP.out.c0; replace p1 := HP.out.c1; replace p2 := HP.out.c2; replace HS := Lib.hid (HS.out.below hbx); replace HL := Lib.hid (HL.out.below hbx); replace HZa := Lib.hid (HZa.out.below hbx); replace HZb := Lib.hid (HZb.out.below hbx); replace HT := Lib.hid (HT.out.below hbx); replace HX := Lib.hid (HX.out.below hbx)
    clear hX hbx
    go_wp2_with fail
    have HFY := Lib.hid (HF.out.plusZ HPN.out HFb.out HDN.out.sp)
    refine (apply_full HPN.out HFY.out HFa.out HREP.out.symm (by omega) YA ZAa yc zca _ (hE.bases HB.out) HY.out HZa.out).mono ?_
    rintro e wt ⟨VA, vc, rfl, hX, hbx⟩
    have HV := Lib.hid (hX.away hE.lt)
    replace hE := hE.mv hbx; replace HP := Lib.hid (HP.out.below hbx); replace p0 := HP.out.c0; replace p1 := HP.out.c1; replace p2 := HP.out.c2; replace HS := Lib.hid (HS.out.below hbx); replace HL := Lib.hid (HL.out.below hbx); replace HZa := Lib.hid (HZa.out.below hbx); replace HZb := Lib.hid (HZb.out.below hbx); replace HT := Lib.hid (HT.out.below hbx); replace HX := Lib.hid (HX.out.below hbx); replace HY := Lib.hid (HY.out.below hbx)
    clear hX hbx
    go_wp2_with fail
    have HEQ := Lib.hid (show plusT p N (sumN p Za [Zb]) = plusT p (plusT p N Zb) Za from plus_swap HF.out HFa.out HFb.out HREP.out HREP.out)
    have HFX := Lib.hid (HF.out.plusZ HPN.out HFT.out HDN.out.sp)
    refine ret_below (same_sh XA VA (shL (plusT p N (sumN p Za [Zb]))) xc vc h h _ HX.out (by rw [HEQ.out]; exact HV.out) (HFX.out.short (by omega)) (by rw [shL_len, HFX.out.len]; omega) (by rw [shL_len, HFX.out.len]) (by rw [shL_len, HFX.out.len])) ?_
    intro wu hbu
    replace hE := hE.mv hbu; replace HP := Lib.hid (HP.out.below hbu); replace p0 := HP.out.c0; replace p1 := HP.out.c1; replace p2 := HP.out.c2; replace HS := Lib.hid (HS.out.below hbu); replace HL := Lib.hid (HL.out.below hbu); replace HZa := Lib.hid (HZa.out.below hbu); replace HZb := Lib.hid (HZb.out.below hbu); replace HT := Lib.hid (HT.out.below hbu); replace HX := Lib.hid (HX.out.below hbu); replace HY := Lib.hid (HY.out.below hbu); replace HV := Lib.hid (HV.out.below hbu)
    go_wp2_with fail
    refine ret_below (awake8 _ (hE.bases HB.out)) ?_
    intro wz hbz
    go_wp2_with fail
    go_ret
    exact RetB.bool rfl (hE.mv hbz).below
  · have hL := light_any A0 L0.length c0 w
    rw [decide_eq_false hlight] at hL
    have HLt := Lib.hid hL
    clear hL
    go_enter Tryd.func4, Tryd.ntmps4
    go_wp2_with fail
    refine ret_pure HLt.out ?_
    go_wp2_with fail
    refine ret_below (awake8 _ HB.out) ?_
    intro w1 hb1
    go_wp2_with fail
    go_ret
    exact RetB.bool rfl hb1
end Go.Proofs.YtlhipgejiacklaaDoor
namespace Go.Proofs.YtlhipgejiacklaaDoor
open Go.RowKit

theorem cell_block_lt {w : World} {a : Addr} {v : Value} (h : w.cell? a = some v) : a.block < w.heap.size := by
  rcases Nat.lt_or_ge a.block w.heap.size with hlt | hge
  · exact hlt
  · unfold World.cell? at h; simp [Array.getElem?_eq_none hge] at h
theorem open_row {W : World} {x : Addr} {len cap : Nat} {zs : List Int} (hl : len ≤ cap) (hm : cap ≤ maxLen) (hz : zs.length = cap) (hcell : ∀ i, i < zs.length → W.cell? (x.add i) = some (.int .i64 (zs.getD i 0)))
    (hb : ∀ n ∈ zs, -9223372036854775808 ≤ n ∧ n ≤ 9223372036854775807) :
    ∃ ys : List Int, ys.length = len ∧ ys.length ≤ maxLen ∧ IntsAt W (some x) ys ∧ ∀ n ∈ ys, -9223372036854775808 ≤ n ∧ n ≤ 9223372036854775807 := by
  refine ⟨zs.take len, by simp; omega, by simp; omega, fun k hk => ?_, fun n hn => hb n (List.mem_of_mem_take hn)⟩
  have hk' : k < len := by simpa using Nat.lt_of_lt_of_le hk (List.length_take_le _ _)
  have h0 := hcell 0 (by omega)
  have hk0 := hcell k (by omega)
  obtain ⟨b, off, spot⟩ := x
  have hs : spot = none := by simpa [Addr.add] using World.cell?_spot h0
  subst hs
  have hlt := cell_block_lt hk0
  refine ⟨b, off, rfl, ?_, ?_⟩
  · unfold Addr.add at hlt; split at hlt <;> exact hlt
  · have e : (⟨b, off, none⟩ : Addr).add k = ⟨b, off + k, none⟩ := by
      unfold Addr.add; split
      · rename_i h; subst h; rfl
      · rfl
    rw [← e, hk0, nth_eq hk]
    simp [List.getD_eq_getElem?_getD, show k < zs.length by omega]
end Go.Proofs.YtlhipgejiacklaaDoor
