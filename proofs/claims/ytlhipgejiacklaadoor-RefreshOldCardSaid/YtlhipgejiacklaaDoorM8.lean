/-
  Refresh: what the functions say of lists that all holders have; the sanity check.
  Refresh: Apply, whose list is the caller's own; a share of such a list set.
  Refresh: sums of zeros; the order of sums.
  Refresh: one old share among the new ones.
  RefreshOld: the walk.
  A slice of numbers that came in reads as a list.
  Conditions: those that each theorem names.
-/
import Derived.Test.YtlhipgejiacklaaDoorM7
set_option linter.unusedVariables false
set_option linter.unusedSimpArgs false
namespace Go.Proofs.YtlhipgejiacklaaDoor
open Go.RowKit

theorem Full.gd {p n h : Nat} {a : List Nat} {N : List ShN} (H : Full p n h a N) (hp : 1 ≤ p) (hm : a.length ≤ 2048) : gdB p h (shL N) = true := (gdB_yes (gd_back (H.made.good hp hm))).symm
theorem Full.short {p n h : Nat} {a : List Nat} {N : List ShN} (H : Full p n h a N) (hm : a.length ≤ 1048576) : Short (shL N) := H.made.short hm
theorem ap_full {p n h : Nat} {a b : List Nat} {N M : List ShN} (P : PlanN p n h) (H : Full p n h a N) (K : Full p n h b M) (hab : a.length = b.length) (hm : a.length ≤ 2048) :
    aE p h (shL N) (shL M) = 0 ∧ aT p h (shL N) (shL M) = plusT p N M := by
  have hl : M.length = N.length := K.len.trans H.len.symm
  have gM := K.made.good P.p1 (by omega)
  have hix : ∀ k, k < N.length → hasH M (hN N k) = true ∧ apI M (hN N k) = k := fun k hk => by
    have := apI_of gM (show k < M.length by omega)
    rw [K.ord k (by omega), ← H.ord k hk] at this; exact this
  have hok : apOk N M = true := by
    unfold apOk anyN
    rw [Bool.not_eq_true', List.any_eq_false]
    intro k hk
    simp [(hix k (List.mem_range.1 hk)).1]
  have hq : N.length = 0 ∨ (vN N 0).length = (vN M 0).length := by
    rcases Nat.eq_zero_or_pos N.length with h0 | h0
    · exact .inl h0
    · exact .inr (by rw [H.made.vlen h0, K.made.vlen (by omega), hab])
  have he : apE N M = 0 := by unfold apE; rw [if_pos hok, if_pos hq]
  have hE : aE p h (shL N) (shL M) = 0 := by unfold aE; rw [H.gd P.p1 hm, K.gd P.p1 (by omega), natL_shL, natL_shL]; exact he
  refine ⟨hE, ?_⟩
  unfold aT
  rw [if_pos hE, natL_shL, natL_shL]
  unfold apT plusT
  refine List.map_congr_left fun k hk => ?_
  rw [(hix k (List.mem_range.1 hk)).2]
theorem apply_full {P P' : Nat → Prop} {p n h : Nat} {a b : List Nat} {N M : List ShN} (PN : PlanN p n h) (H : Full p n h a N) (K : Full p n h b M) (hab : a.length = b.length) (hm : a.length ≤ 2048) (A B : Option Addr) (ca cb : Nat) (w : World) (hB : Bases w) (hA : ShP P w A ca (shL N)) (hM : ShP P' w B cb (shL M)) :
    Calls Tryd.prog 25 #[planV p n h, .slice A h ca, .slice B h cb] w (DealR (plusT p N M) h w) := by
  have := apply_any p n h A B ca cb h h (shL N) (shL M) w PN hB hA hM (H.short (by omega)) (K.short (by omega)) (by rw [shL_len, H.len]) (by rw [shL_len, K.len]) (by rw [shL_len, H.len]; have := PN.h7; omega) (by rw [shL_len, K.len]; have := PN.h7; omega)
  obtain ⟨e1, e2⟩ := ap_full PN H K hab hm
  rw [e1, e2] at this
  refine this.mono ?_
  rintro e w' ⟨A', c', rfl, h1, h2⟩
  exact ⟨A', c', by rw [shL_len, plusT_len, H.len], h1, h2⟩
theorem checks_full {P : Nat → Prop} {p n h : Nat} {b : List Nat} {M : List ShN} (PN : PlanN p n h) (K : Full p n h b M) (hm : b.length ≤ 2048) (B : Option Addr) (cb : Nat) (w : World) (hB : Bases w) (hM : ShP P w B cb (shL M)) :
    Calls Tryd.prog 23 #[planV p n h, .slice B h cb] w (RetB (.bool (b.all fun x => x == 0)) w) := by
  have := checks_any p n h B cb (shL M) w PN.pv hB hM (K.short (by omega)) (by rw [shL_len, K.len]; have := PN.h7; omega)
  obtain ⟨e1, e2⟩ := K.made.cm PN hm (by rw [K.len]; exact PN.nh)
  rw [← ckB_all (K.made.ft PN hm) (by rw [shL_len, K.len]) (ordB_yes (fun k hk => by rw [shL_len] at hk; rw [hS_shL hk, K.ord k hk]; push_cast; rfl)) e1, e2, shL_len, K.len] at this
  exact this
theorem refCombine_made {P : Nat → Prop} {p n h : Nat} {sec : List Nat} {N : List ShN} (H : Made p n h sec N) (PN : PlanN p n h) (A : Option Addr) (c k : Nat) (w : World) (hS : ShP P w A c (shL N)) (hm : sec.length ≤ 2048) (hl : N.length ≤ 1048576) (hk : k = N.length) (hn : n ≤ N.length) :
    Calls Tryd.prog 27 #[planV p n h, .slice A k c] w (ListErr sec 0 w) := by
  have h1 := H.cm PN hm hn
  have := refCombine_any p n h A c (shL N) w PN.pv hS (H.short (by omega)) (by rw [shL_len]; exact hl)
  rw [h1.1, h1.2, shL_len, ← hk] at this
  exact this
theorem refFits_made {P : Nat → Prop} {p n h : Nat} {sec : List Nat} {N : List ShN} (H : Made p n h sec N) (PN : PlanN p n h) (A : Option Addr) (c k : Nat) (w : World) (hS : ShP P w A c (shL N)) (hm : sec.length ≤ 2048) (hl : N.length ≤ 1048576) (hk : k = N.length) :
    Calls Tryd.prog 26 #[planV p n h, .slice A k c] w (RetB (.bool true) w) := by
  have h1 := H.ft PN hm
  have := refFits_any p n h A c (shL N) w PN.pv hS (H.short (by omega)) (by rw [shL_len]; exact hl)
  rw [h1, shL_len, ← hk] at this
  exact this
theorem plan_732 : PlanN 7 2 3 := PlanN.mk' prime_7 (by omega) (by omega) (by omega) (by omega) (by omega)
def zaN : List ShN := dealN 7 2 3 (List.replicate 1 0) [2]
def laN : List ShN := dealN 7 2 3 [3] [1]
theorem za_full : Full 7 2 3 (List.replicate 1 0) zaN := Full.deal plan_732 (by simp) (by simp)
theorem la_full : Full 7 2 3 [3] laN := Full.deal plan_732 (by simp) (by simp)
theorem lz_full : Full 7 2 3 [3] (plusT 7 laN zaN) := by
  have := la_full.plus plan_732 za_full (by simp)
  rw [show linN 7 [3] (List.replicate 1 0) 1 = [3] from by decide +kernel] at this
  exact this
set_option maxRecDepth 100000 in
set_option maxHeartbeats 4000000 in
theorem awake8 (w : World) (hB : Bases w) : Calls Tryd.prog 14 #[] w (RetB (.bool true) w) := by
  have HB := Lib.hid hB
  have HZ := Lib.hid (fun (W : World) (B : Option Addr) (h1 : Below w.heap.size w W) (h2 : NatsAt W B [2]) (h3 : SlOK B 1 [2]) => show Calls Tryd.prog 20 #[planV 7 2 3, .int .i64 1, .slice B 1 1] W (DealR zaN 3 W) from
    zero_made 7 2 3 1 1 plan_732 (by omega) B 1 [2] W (hB.below h1 hB.1) h2 h3 (by simp) (by simp) (by simp) (by simp))
  have HD := Lib.hid (fun (W : World) (A B : Option Addr) (h1 : NatsAt W A [3]) (h2 : NatsAt W B [1]) (h3 : SlOK B 1 [1]) => show Calls Tryd.prog 31 #[planV 7 2 3, .slice A 1 1, .slice B 1 1] W (DealR laN 3 W) from
    refDeal_made plan_732 h1 h2 h3 (by simp) (by simp) (by simp) (by simp) (by simp) (by simp) (by simp))
  have HAP := Lib.hid (fun (W : World) (h0 : Below w.heap.size w W) (A B : Option Addr) (ca cb : Nat) (P P' : Nat → Prop) (h1 : ShP P W A ca (shL laN)) (h2 : ShP P' W B cb (shL zaN)) => show Calls Tryd.prog 25 #[planV 7 2 3, .slice A 3 ca, .slice B 3 cb] W (DealR (plusT 7 laN zaN) 3 W) from
    apply_full plan_732 la_full za_full (by simp) (by simp) A B ca cb W (hB.below h0 hB.1) h1 h2)
  have HCO := Lib.hid (fun (W : World) (A : Option Addr) (ca : Nat) (P : Nat → Prop) (h1 : ShP P W A ca (shL (plusT 7 laN zaN))) => show Calls Tryd.prog 27 #[planV 7 2 3, .slice A 3 ca] W (ListErr [3] 0 W) from
    refCombine_made lz_full.made plan_732 A ca 3 W h1 (by simp) (by rw [lz_full.len]; omega) lz_full.len.symm (by rw [lz_full.len]; omega))
  have HCK := Lib.hid (fun (W : World) (h0 : Below w.heap.size w W) (B : Option Addr) (cb : Nat) (P : Nat → Prop) (h1 : ShP P W B cb (shL zaN)) => show Calls Tryd.prog 23 #[planV 7 2 3, .slice B 3 cb] W (RetB (.bool true) W) from by
    have := checks_full plan_732 za_full (by simp) B cb W (hB.below h0 hB.1) h1
    exact this)
  clear hB
  go_enter Tryd.func14, Tryd.ntmps14
  go_wp2_with fail
  refine gen_calls fun w1 hw1 => ?_
  have hpc1 : PlanCell w1 w.heap.size 7 2 3 := by rw [hw1]; exact (PlanCell.new _ _ _ rfl).alloc _
  have hnb : NatBlk w1 (w.heap.size + 1) [2] := by rw [hw1]; exact lit1_at _ _ _ (by simp)
  have hb1 : Below w.heap.size w w1 := by rw [hw1]; exact bl_alloc _ (below_alloc _ _)
  clear hw1
  refine (HZ.out _ _ hb1 hnb.nats (SlOK.own hnb (by unfold maxLen; simp))).mono ?_
  rintro e w2 ⟨ZA, zc, rfl, hZ, hb2⟩
  have hpc2 := hpc1.below hb2
  have hbw2 := below_trans hb1 hb2
  have hz2 := hbw2.size
  have p0 := hpc2.c0
  have p1 := hpc2.c1
  have p2 := hpc2.c2
  have HZZ := Lib.hid hZ
  clear hpc1 hnb hb1 hb2 hZ
  go_wp2_with fail
  refine gen_calls fun w3 hw3 => ?_
  have hb3 : Below w2.heap.size w2 w3 := by rw [hw3]; exact bl_alloc _ (below_alloc _ _)
  have hn3 : NatBlk w3 w2.heap.size [3] := by rw [hw3]; exact (lit1_nats w2 3).below (below_alloc _ _)
  have hn1 : NatBlk w3 (w2.heap.size + 1) [1] := by rw [hw3]; exact lit1_at _ _ _ (by simp)
  clear hw3
  refine (HD.out _ _ _ hn3.nats hn1.nats (SlOK.own hn1 (by unfold maxLen; simp))).mono ?_
  rintro e w4 ⟨LA, lc, rfl, hL, hb4⟩
  have hb24 := below_trans hb3 hb4
  have hpc4 := hpc2.below hb24
  have hbw4 := below_trans hbw2 hb24
  have q0 := hpc4.c0
  have q1 := hpc4.c1
  have q2 := hpc4.c2
  have HZ4 := Lib.hid (HZZ.out.below hb24)
  have HL4 := Lib.hid hL
  clear hpc2 hn3 hn1 hb3 hb4 hL p0 p1 p2 hb24
  go_wp2_with fail
  refine (HAP.out _ hbw4 _ _ _ _ _ _ HL4.out HZ4.out).mono ?_
  rintro e w5 ⟨MA, mc, rfl, hM, hb5⟩
  have hpc5 := hpc4.below hb5
  have hbw5 := below_trans hbw4 hb5
  have r0 := hpc5.c0
  have r1 := hpc5.c1
  have r2 := hpc5.c2
  have HZ5 := Lib.hid (HZ4.out.below hb5)
  have HM5 := Lib.hid hM
  clear hpc4 hb5 hM q0 q1 q2 HL4
  go_wp2_with fail
  refine (HCO.out _ _ _ _ HM5.out).mono ?_
  rintro e w6 ⟨XA, xc, rfl, hX, -, -, hb6⟩
  have hpc6 := hpc5.below hb6
  have hbw6 := below_trans hbw5 hb6
  have s0 := hpc6.c0
  have s1 := hpc6.c1
  have s2 := hpc6.c2
  have HZ6 := Lib.hid (HZ5.out.below hb6)
  obtain ⟨xb, xo, rfl, hxl, x0⟩ := hX 0 (by simp)
  simp [nthN] at x0
  clear hpc5 hb6 hX r0 r1 r2 HM5
  go_wp2_with fail
  refine ret_below (HCK.out _ hbw6 _ _ _ HZ6.out) fun w7 hb7 => ?_
  have x7 := (hb7.cell (p := ⟨xb, xo, none⟩) hxl).trans x0
  clear x0 s0 s1 s2
  go_wp2_with fail
  go_ret
  exact RetB.bool rfl (below_trans hbw6 hb7)
end Go.Proofs.YtlhipgejiacklaaDoor
namespace Go.Proofs.YtlhipgejiacklaaDoor
open Go.RowKit

/-- A list of shares that the call made itself, to be written. -/
def OwnR (N : List ShN) (h : Nat) (w : World) (e : Ending) (w' : World) : Prop :=
  ∃ A c base, w.heap.size ≤ base ∧ e = .returned (.tuple #[.slice A h c, .int .i64 0]) ∧ RowsV (fun b => base ≤ b) w' base (.slice A h c) (shL N) ∧ Below w.heap.size w w'
theorem RowsV.set {w : World} {base g n c k : Nat} {x : Int} {L : List Int} {S : List Shr} {B : Option Addr} {c' : Nat} (h : RowsV (fun b => base ≤ b) w base (.slice (some ⟨g, 0, none⟩) n c) S) (hn : n = S.length) (hk : k < S.length) (hI : IntsP (fun b => b < base) w B c' L) :
    ShP (fun _ => True) ((w.setCell ⟨g, k * 2, none⟩ (.int .i64 x)).setCell ⟨g, k * 2 + 1, none⟩ (.slice B L.length c')) (some ⟨g, 0, none⟩) c (S.set k (x, L)) ∧ Below base w ((w.setCell ⟨g, k * 2, none⟩ (.int .i64 x)).setCell ⟨g, k * 2 + 1, none⟩ (.slice B L.length c')) := by
  obtain ⟨H, e1, e2, e3⟩ := h.ex
  have hnH : n = H.length := by omega
  subst hnH
  obtain ⟨g', c1, hv, hg, hbg, hlc, hcm, hcell, hfz⟩ := e1.form (by omega)
  injection hv with h1 _ h3
  injection h1 with h1
  injection h1 with h1
  subst h1 h3
  have hs := e1.setHV k (by omega) (x, .slice B L.length c')
  have hbl : Below base w ((w.setCell ⟨g, k * 2, none⟩ (.int .i64 x)).setCell ⟨g, k * 2 + 1, none⟩ (.slice B L.length c')) := ((Below.refl base w).setCell (p := ⟨g, k * 2, none⟩) hbg _).setCell (p := ⟨g, k * 2 + 1, none⟩) hbg _
  have hkeep : ∀ b, b ≠ g → ((w.setCell ⟨g, k * 2, none⟩ (.int .i64 x)).setCell ⟨g, k * 2 + 1, none⟩ (.slice B L.length c')).heap[b]? = w.heap[b]? := fun b hb => (Below.heap_setCell _ _ _ b hb).trans (Below.heap_setCell _ _ _ b hb)
  refine ⟨?_, hbl⟩
  have hR : RowsV (fun _ => True) ((w.setCell ⟨g, k * 2, none⟩ (.int .i64 x)).setCell ⟨g, k * 2 + 1, none⟩ (.slice B L.length c')) base (.slice (some ⟨g, 0, none⟩) H.length c) (S.set k (x, L)) := by
    refine ⟨H.set k (x, .slice B L.length c'), hs, by simp [e2], fun j hj => ?_⟩
    have hj' : j < S.length := by simpa using hj
    by_cases hjk : k = j
    · subst hjk
      rw [hvAt_set_same _ _ _ (by omega)]
      have e4 : hS (S.set k (x, L)) k = x ∧ vS (S.set k (x, L)) k = L := by simp [hS, vS, List.getD_eq_getElem?_getD, hk]
      rw [e4.1, e4.2]
      refine ⟨rfl, B, c', rfl, ((hI.mono (Q := fun b => b ≠ g) (fun b _ hb => by omega)).keep ⟨hbl.size, fun b hb _ => hkeep b hb⟩).mono (fun b _ hb => ⟨trivial, fun e => hb (Option.some.inj e).symm⟩)⟩
    · rw [hvAt_set_other _ _ _ _ hjk]
      have e4 : hS (S.set k (x, L)) j = hS S j ∧ vS (S.set k (x, L)) j = vS S j := by simp [hS, vS, List.getD_eq_getElem?_getD, hjk]
      rw [e4.1, e4.2]
      obtain ⟨f1, B', c2, f2, f3⟩ := e3 j hj'
      refine ⟨f1, B', c2, f2, ((f3.mono (Q := fun b => b ≠ g) (fun b _ hb => fun e => hb.2 (by rw [e]; rfl))).keep ⟨hbl.size, fun b hb _ => hkeep b hb⟩).mono (fun b _ hb => ⟨trivial, fun e => hb (Option.some.inj e).symm⟩)⟩
  obtain ⟨A', c2, hv2, hX⟩ := hR.read
  injection hv2 with q1 _ q3
  subst q1 q3
  exact hX.any

set_option maxRecDepth 100000 in
set_option maxHeartbeats 4000000 in
theorem apply_rows {P P' : Nat → Prop} (p n h : Nat) (A B : Option Addr) (ca cb kA kB : Nat) (N M : List ShN) (w : World) (hv : primeV p = validI p) (hB : Bases w) (hpl : plB p n h = true) (gN : GoodN p h N) (gM : GoodN p h M) (hA : ShP P w A ca (shL N)) (hM : ShP P' w B cb (shL M)) (hkA : kA = N.length) (hkB : kB = M.length) (hl : N.length ≤ 100000) (hl2 : M.length ≤ 100000) (hno : apOk N M = true) (hq : N.length = 0 ∨ (vN N 0).length = (vN M 0).length) :
    Calls Tryd.prog 25 #[planV p n h, .slice A kA ca, .slice B kB cb] w (OwnR (apT p N M) N.length w) := by
  subst hkA hkB
  have hshN : Short (shL N) := short_shL fun k hk => by have := gN.few k hk; omega
  have hshM : Short (shL M) := short_shL fun k hk => by have := gM.few k hk; omega
  obtain ⟨l1, l2, l3, l4, -⟩ := (of_decide_eq_true hpl : PlanP p n h)
  have HVA := Lib.hid (fun (W : World) (hb : Below w.heap.size w W) => show Calls Tryd.prog 49 #[planV p n h] W (RetB (.bool true) W) from by have := valid_plan p n h W (hB.below hb hB.1); rw [hpl] at this; exact this)
  have HGN := Lib.hid (fun (W : World) (hb : Below w.heap.size w W) => show Calls Tryd.prog 55 #[planV p n h, .slice A N.length ca] W (RetB (.bool true) W) from by have := good_any p n h A ca (shL N) W (hA.below hb) hshN (by omega) (by rw [shL_len]; omega); rw [← gdB_yes (gd_back gN), shL_len] at this; exact this)
  have HGM := Lib.hid (fun (W : World) (hb : Below w.heap.size w W) => show Calls Tryd.prog 55 #[planV p n h, .slice B M.length cb] W (RetB (.bool true) W) from by have := good_any p n h B cb (shL M) W (hM.below hb) hshM (by omega) (by rw [shL_len]; omega); rw [← gdB_yes (gd_back gM), shL_len] at this; exact this)
  have HC := Lib.hid (fun (W : World) (hb : Below w.heap.size w W) (g z : Nat) (hc : W.cell? ⟨z, 0, none⟩ = some (.slice B M.length cb)) (hz : z < W.heap.size) (hf : W.cell? ⟨g, 0, none⟩ = some (.func (.func 57) #[] #[.pointer (some ⟨z, 0, none⟩)])) (hg : g < W.heap.size) =>
    show Calls Tryd.prog 60 #[.slice A N.length ca, .func (.func 61) #[] #[.pointer (some ⟨g, 0, none⟩)]] W (RetB (.bool (!apOk N M)) W) from by
      have := containsSh_any 61 #[.pointer (some ⟨g, 0, none⟩)] (fun k => !hasH M (hN N k)) A (shL N) ca W (hA.below hb) (by rw [shL_len]; omega) enter_ap2 (fun w' hb' k hk B' c' => by
        rw [shL_len] at hk
        have := ap2_any (hS (shL N) k) (.slice B' (vS (shL N) k).length c') B cb (shL M) g z w' (by rw [shL_len]; exact (hb'.cell hz).trans hc) (Nat.lt_of_lt_of_le hz hb'.size) ((hb'.cell hg).trans hf) (Nat.lt_of_lt_of_le hg hb'.size) (hM.below (below_trans hb hb')) (by rw [shL_len]; omega)
        rw [hS_shL hk, shL_len] at this
        rw [hS_shL hk]; exact this)
      rw [shL_len] at this
      unfold apOk
      rw [Bool.not_not]; exact this)
  have HBS := Lib.hid hB
  have HA := Lib.hid hA
  have HM := Lib.hid hM
  have HGDN := Lib.hid gN
  have HGDM := Lib.hid gM
  have HPL := Lib.hid hpl
  have HPV := Lib.hid hv
  clear hB hA hM gN gM hpl hv hshN hshM
  rw [hno] at HC
  have HOK := Lib.hid hno
  have HQ := Lib.hid hq
  clear hno hq
  go_enter Tryd.func25, Tryd.ntmps25
  go_wp2_with fail
  refine gen_calls fun w1 hw1 => ?_
  have hpc1 : PlanCell w1 w.heap.size p n h := by rw [hw1]; exact (PlanCell.new _ _ _ rfl).alloc _
  have hz1 : w1.heap[w.heap.size + 1]? = some (.cells #[.slice B M.length cb] 31 (0, 0)) := by
    rw [hw1]
    have := heap_alloc_new (w.alloc (.cells #[.int .i64 (p : Int), .int .i64 (n : Int), .int .i64 (h : Int)] 28)) (.cells #[.slice B M.length cb] 31)
    rw [size_alloc] at this; exact this
  have hb1 : Below w.heap.size w w1 := by rw [hw1]; exact below_trans (below_alloc _ _) (below_alloc _ _)
  clear hw1
  refine ret_below (HVA.out _ hb1) fun w2 hb2 => ?_
  have hb2w := below_trans hb1 hb2
  have hpc2 := hpc1.below hb2
  have hlz1 := blk_lt hz1
  have hz2 := (hb2.block _ hlz1).trans hz1
  have p0 := hpc2.c0
  have p1 := hpc2.c1
  have p2 := hpc2.c2
  have z0 : w2.cell? ⟨w.heap.size + 1, 0, none⟩ = some (.slice B M.length cb) := by rw [cell_of_row w2 _ 0 _ _ (0, 0) hz2]; rfl
  clear hpc1 hz1 hb1 hb2
  go_wp2_with fail
  refine ret_below (HGN.out _ hb2w) fun w3 hb3 => ?_
  have hb3w := below_trans hb2w hb3
  have hpc3 := hpc2.below hb3
  have hlz2 := blk_lt hz2
  have hz3 := (hb3.block _ hlz2).trans hz2
  have p03 := hpc3.c0
  have p13 := hpc3.c1
  have p23 := hpc3.c2
  have z03 := (hb3.cell (p := ⟨w.heap.size + 1, 0, none⟩) hlz2).trans z0
  clear p0 p1 p2 z0 hpc2 hz2 hb2w hb3
  go_wp2_with fail
  refine ret_below (HGM.out _ hb3w) fun w4 hb4 => ?_
  have hb4w := below_trans hb3w hb4
  have hpc4 := hpc3.below hb4
  have hlz3 := blk_lt hz3
  have hz4 := (hb4.block _ hlz3).trans hz3
  have z04 := (hb4.cell (p := ⟨w.heap.size + 1, 0, none⟩) hlz3).trans z03
  have hlz4 := blk_lt hz4
  clear p03 p13 p23 z03 hpc3 hz3 hb3w hb4
  go_wp2_with fail
  refine gen_calls fun w5 hw5 => ?_
  have hf5 : w5.heap[w4.heap.size]? = some (.cells #[.func (.func 57) #[] #[.pointer (some ⟨w.heap.size + 1, 0, none⟩)]] 34 (0, 0)) := by
    rw [hw5]; exact heap_alloc_new w4 _
  have hb5 : Below w4.heap.size w4 w5 := by rw [hw5]; exact below_alloc _ _
  have hb5w := below_trans hb4w hb5
  clear hw5
  have hlf5 := blk_lt hf5
  have f5 : w5.cell? ⟨w4.heap.size, 0, none⟩ = some (.func (.func 57) #[] #[.pointer (some ⟨w.heap.size + 1, 0, none⟩)]) := by rw [cell_of_row w5 _ 0 _ _ (0, 0) hf5]; rfl
  have z05 := (hb5.cell (p := ⟨w.heap.size + 1, 0, none⟩) hlz4).trans z04
  have hpc5 := hpc4.below hb5
  have hlz5 : w.heap.size + 1 < w5.heap.size := Nat.lt_of_lt_of_le hlz4 hb5.size
  have hlp5 := hpc5.lt
  generalize w4.heap.size = pf at *
  refine ret_below (HC.out _ hb5w pf (w.heap.size + 1) z05 hlz5 f5 hlf5) fun w6 hb6 => ?_
  have hb6w := below_trans hb5w hb6
  have HP6 := Lib.hid (hpc5.below hb6)
  have z06 := (hb6.cell (p := ⟨w.heap.size + 1, 0, none⟩) hlz5).trans z05
  have f6 := (hb6.cell (p := ⟨pf, 0, none⟩) hlf5).trans f5
  have lz6 : w.heap.size + 1 < w6.heap.size := Nat.lt_of_lt_of_le hlz5 hb6.size
  have lf6 : pf < w6.heap.size := Nat.lt_of_lt_of_le hlf5 hb6.size
  have lp6 := HP6.out.lt
  clear hpc4 hpc5 hz4 z04 z05 f5 hf5 hb4w hb5 hb5w hb6 hlz5 hlf5 hlz4 hlz3 hlz2 hlz1 hlp5 HVA HGN HGM HC
  have b0 : 1 ≤ p := by omega
  have b1 : p ≤ 1073741824 := by
    obtain ⟨q, hq, -, hq2⟩ := plan_prime (of_decide_eq_true HPL.out) HPV.out
    omega
  go_wp2_with fail
  go_loopw [9, 35] (fun o i wr => ∃ k : Nat, k ≤ N.length ∧ i = .int .i64 k ∧ RowsV (fun b => w6.heap.size ≤ b) wr w6.heap.size o (shL ((apT p N M).take k)) ∧ Below w6.heap.size w6 wr) (fun _ i _ => N.length - (intOf i).toNat)
  case atStart => exact ⟨0, Nat.zero_le _, rfl, RowsV.nil _ _ _, Below.refl _ _⟩
  case round =>
    obtain ⟨k, hk, rfl, hR, hbr⟩ := hrel
    obtain ⟨OA, oc, hv, hRd⟩ := hR.read
    have hlk : (shL ((apT p N M).take k)).length = k := by rw [shL_len, List.length_take, apT_len]; omega
    rw [hlk] at hv
    subst hv
    have hsz := hbr.size
    have hbw := below_trans hb6w hbr
    have HR := Lib.hid hR
    have HLK := Lib.hid hlk
    have HRd := Lib.hid hRd
    clear hR hlk hRd
    by_cases hlt : k < N.length
    · obtain ⟨b1', o1, B1, c1, rfl, hb1, -, x0, x1, hX, -⟩ := (HA.out.below hbw).nat hlt
      have hh := apOk_at HOK.out hlt
      obtain ⟨-, hj, hjx⟩ := apI_at hh
      obtain ⟨b2, o2, B2, c2, rfl, hb2, -, u0, u1, hU, -⟩ := (HM.out.below hbw).nat hj
      have HTK := Lib.hid (apT_take (p := p) (M := M) hlt)
      obtain ⟨hx1, hx2, hLp⟩ := HGDN.out.rng k hlt
      have hl0 := HGDN.out.len k hlt
      have hlf := HGDN.out.few k hlt
      obtain ⟨-, -, hKp⟩ := HGDM.out.rng _ hj
      have hk0 := HGDM.out.len _ hj
      have hkf := HGDM.out.few _ hj
      have HLEN := Lib.hid (And.intro hl0 hk0)
      rw [hjx] at u0
      generalize hjd : apI M (hN N k) = j at *
      generalize hL : vN N k = L at *
      generalize hK : vN M j = K at *
      generalize hx : hN N k = x at *
      have HLP := Lib.hid hLp
      have HKP := Lib.hid hKp
      have HH := Lib.hid hh
      have HJD := Lib.hid hjd
      have hjI : (0 : Int) ≤ (j : Int) := by omega
      have hjM : (j : Int) < (M.length : Int) := by omega
      have HKL := Lib.hid (show K.length = L.length from (by rcases HQ.out with h0 | h0 <;> omega))
      have hq6 := HP6.out.keep (hbr.block w.heap.size lp6)
      have hP0 := hq6.c0
      have hP1 := hq6.c1
      have hP2 := hq6.c2
      have hzr := (hbr.cell (p := ⟨w.heap.size + 1, 0, none⟩) lz6).trans z06
      have hfr := (hbr.cell (p := ⟨pf, 0, none⟩) lf6).trans f6
      have lpr : w.heap.size < wr.heap.size := by omega
      have lzr : w.heap.size + 1 < wr.heap.size := by omega
      have lfr : pf < wr.heap.size := by omega
      clear hjx hLp hKp hh hjd hL hK hx hl0 hk0 hj hq6
      go_wp2_with fail
      refine gen_world fun w7 hw7 => ?_
      have hsc : ShCell w7 wr.heap.size x (.slice B1 L.length c1) := by rw [hw7]; exact ShCell.new _ _ rfl
      have hb7 : Below wr.heap.size wr w7 := by rw [hw7]; exact below_alloc _ _
      have hb7z := hb7.size
      have hs7 : w6.heap.size ≤ w7.heap.size := by omega
      have hbw7 := below_trans hbw hb7
      have v0 := hsc.c0
      have v1 := hsc.c1
      have lg7 := hsc.lt
      have lp7 : w.heap.size < w7.heap.size := by omega
      have lz7 : w.heap.size + 1 < w7.heap.size := by omega
      have lf7 : pf < w7.heap.size := by omega
      have lb7 : b2 < w7.heap.size := by omega
      have y0 := (hb7.cell (p := ⟨w.heap.size, 0, none⟩) lpr).trans hP0
      have y1 := (hb7.cell (p := ⟨w.heap.size, 1, none⟩) lpr).trans hP1
      have y2 := (hb7.cell (p := ⟨w.heap.size, 2, none⟩) lpr).trans hP2
      have yz := (hb7.cell (p := ⟨w.heap.size + 1, 0, none⟩) lzr).trans hzr
      have yf := (hb7.cell (p := ⟨pf, 0, none⟩) lfr).trans hfr
      have u0 := (hb7.cell (p := ⟨b2, o2 + j * 2, none⟩) hb2).trans u0
      have u1 := (hb7.cell (p := ⟨b2, o2 + j * 2 + 1, none⟩) hb2).trans u1
      have HX7 := Lib.hid (hX.below hb7)
      have HU7 := Lib.hid (hU.below hb7)
      have HR7 := Lib.hid (HR.out.below hb7)
      have HAP := Lib.hid (fun (W : World) (hb : Below w7.heap.size w7 W) => ap1_at x (some ⟨b2, o2, none⟩) cb j M (w.heap.size + 1) W ((hb.cell (p := ⟨w.heap.size + 1, 0, none⟩) lz7).trans yz) (Nat.lt_of_lt_of_le lz7 hb.size) (HM.out.below (below_trans hbw7 hb)) (by omega) HH.out HJD.out)
      clear hw7 hsc hP0 hP1 hP2 hzr hfr x0 x1 hX hU
      go_region_held3 (fun w' => w'.cell? ⟨w.heap.size, 0, none⟩ = some (.int .i64 (p : Int)) ∧ w'.cell? ⟨w.heap.size, 1, none⟩ = some (.int .i64 (n : Int)) ∧ w'.cell? ⟨w.heap.size, 2, none⟩ = some (.int .i64 (h : Int)) ∧ w'.cell? ⟨w.heap.size + 1, 0, none⟩ = some (.slice (some ⟨b2, o2, none⟩) M.length cb) ∧ w'.cell? ⟨pf, 0, none⟩ = some (.func (.func 57) #[] #[.pointer (some ⟨w.heap.size + 1, 0, none⟩)]) ∧ w'.cell? ⟨wr.heap.size, 0, none⟩ = some (.int .i64 (x : Int)) ∧ w'.cell? ⟨wr.heap.size, 1, none⟩ = some (.slice B1 L.length c1) ∧ w'.cell? ⟨b2, o2 + j * 2, none⟩ = some (.int .i64 (x : Int)) ∧ w'.cell? ⟨b2, o2 + j * 2 + 1, none⟩ = some (.slice B2 K.length c2)) (first | (go_keep; done) | (exact ⟨keep_set2 (by dsimp only; omega) t0, keep_set2 (by dsimp only; omega) t1, keep_set2 (by dsimp only; omega) t2, keep_set2 (by dsimp only; omega) t3, keep_set2 (by dsimp only; omega) t4, keep_set2 (by dsimp only; omega) t5, keep_set2 (by dsimp only; omega) t6, keep_set2 (by dsimp only; omega) t7, keep_set2 (by dsimp only; omega) t8⟩))
        (first
          | (go_at_call 57; refine ret_below (HAP.out _ (by (repeat (first | exact bl_refl _ | apply bl_drew | apply bl_alloc)))) ?_; intro w8 hb8; (first
              | (have hb8' : Below w7.heap.size w7 w8 := below_undrew1 hb8)
              | (have hb8A : Below (w7.alloc shO).heap.size (w7.alloc shO) w8 := below_undrew1 hb8; have hb8' : Below w7.heap.size w7 w8 := below_trans (below_alloc _ _) hb8A; have HRz := Lib.hid ((ShCell.new (w := w7) 0 (.slice none 0 0) rfl).below hb8A); have fz0 := HRz.out.frozen 0; have fz1 := HRz.out.frozen 1; have rz0 := HRz.out.c0; have rz1 := HRz.out.c1)); have zd := hb8'.size; have s0 := (hb8'.cell (p := ⟨w.heap.size, 0, none⟩) lp7).trans y0; have s1 := (hb8'.cell (p := ⟨w.heap.size, 1, none⟩) lp7).trans y1; have s2 := (hb8'.cell (p := ⟨w.heap.size, 2, none⟩) lp7).trans y2; have s3 := (hb8'.cell (p := ⟨w.heap.size + 1, 0, none⟩) lz7).trans yz; have s4 := (hb8'.cell (p := ⟨pf, 0, none⟩) lf7).trans yf; have s5 := (hb8'.cell (p := ⟨wr.heap.size, 0, none⟩) lg7).trans v0; have s6 := (hb8'.cell (p := ⟨wr.heap.size, 1, none⟩) lg7).trans v1; have s7 := (hb8'.cell (p := ⟨b2, o2 + j * 2, none⟩) lb7).trans u0; have s8 := (hb8'.cell (p := ⟨b2, o2 + j * 2 + 1, none⟩) lb7).trans u1)
          | (go_at_call 62; refine (add_two p n h x B1 B2 L K c1 c2 _ _ _ b0 (by omega) HPV.out (HBS.out.below (below_trans hbw7 (by (repeat (first | exact bl_refl _ | exact hb8' | apply bl_drew | apply bl_alloc)))) HBS.out.1) HPL.out (by omega) (by omega) rfl rfl HKL.out HLP.out HKP.out (HX7.out.below (by (repeat (first | exact bl_refl _ | exact hb8' | apply bl_drew | apply bl_alloc)))) (HU7.out.below (by (repeat (first | exact bl_refl _ | exact hb8' | apply bl_drew | apply bl_alloc)))) (by omega)).mono ?_; rintro e w9 ⟨SAe, sce, rfl, hSe, hOKe, hOffe, hbe⟩; (first
              | (have HZ := HRz; have hbe' : Below w7.heap.size w7 w9 := below_trans hb8' hbe; have HRy := Lib.hid (HRz.out.below hbe); have fy0 := HRy.out.frozen 0; have fy1 := HRy.out.frozen 1; have ry0 := HRy.out.c0; have ry1 := HRy.out.c1)
              | (have hbeA : Below (w8.alloc shO).heap.size (w8.alloc shO) w9 := hbe; have hbe' : Below w7.heap.size w7 w9 := below_trans hb8' (below_trans (below_alloc _ _) hbeA); have HRy := Lib.hid ((ShCell.new (w := w8) 0 (.slice none 0 0) rfl).below hbeA); have fy0 := HRy.out.frozen 0; have fy1 := HRy.out.frozen 1; have ry0 := HRy.out.c0; have ry1 := HRy.out.c1)
              | (have hbe' : Below w7.heap.size w7 w9 := below_trans hb8' hbe)); have t0 := (hbe'.cell (p := ⟨w.heap.size, 0, none⟩) lp7).trans y0; have t1 := (hbe'.cell (p := ⟨w.heap.size, 1, none⟩) lp7).trans y1; have t2 := (hbe'.cell (p := ⟨w.heap.size, 2, none⟩) lp7).trans y2; have t3 := (hbe'.cell (p := ⟨w.heap.size + 1, 0, none⟩) lz7).trans yz; have t4 := (hbe'.cell (p := ⟨pf, 0, none⟩) lf7).trans yf; have t5 := (hbe'.cell (p := ⟨wr.heap.size, 0, none⟩) lg7).trans v0; have t6 := (hbe'.cell (p := ⟨wr.heap.size, 1, none⟩) lg7).trans v1; have t7 := (hbe'.cell (p := ⟨b2, o2 + j * 2, none⟩) lb7).trans u0; have t8 := (hbe'.cell (p := ⟨b2, o2 + j * 2 + 1, none⟩) lb7).trans u1))
      all_goals refine gen_last fun wf hwf => ?_
      · have hN9 : ShNew w7 wf w9.heap.size x SAe sce (linN p L K 1) := hwf ▸ ShNew.late hbe' hSe hOKe (fun b off e => by have := hOffe b off e; omega)
        obtain ⟨g, hg⟩ : ∃ g, g = w9.heap.size := ⟨_, rfl⟩
        rw [← hg] at hN9 ⊢
        clear hg hwf
        have g0 := hN9.cell.c0
        have g1 := hN9.cell.c1
        have lg := hN9.cell.lt
        have HN9 := Lib.hid hN9
        have hz9 := hN9.below.size
        obtain ⟨W, hW⟩ : ∃ W, W = wf.alloc (.cells #[.int .i64 (x : Int), .slice SAe (linN p L K 1).length sce] 53) := ⟨_, rfl⟩
        have hbW : Below w7.heap.size w7 W := by rw [hW]; exact bl_alloc _ hN9.below
        have hWz : wf.heap.size ≤ W.heap.size := by rw [hW]; exact (below_alloc _ _).size
        obtain ⟨H, e1, e2, e3⟩ := (HR7.out.below hbW).ex
        have HE3 := Lib.hid (And.intro e1 (And.intro e2 e3))
        have hHl : H.length ≤ 100000 := by rw [e2, HLK.out]; omega
        clear e2 e3 hN9 hOffe hSe hOKe
        subst hW
        go_wp2_with (at_builtin; refine app_hv rfl (.tmp 54) (.tmp 56) rfl (base := w6.heap.size) (H := H) (v := .slice OA k oc) ((x : Int), .slice SAe (linN p L K 1).length sce) rfl e1 rfl (heap_alloc_new _ _) rfl (by omega) (by omega) ?_; intro v4 wg hown4 hg4 hb4 hv4)
        have HB4 := Lib.hid ((hbr.trans (hb7.mono hsz)).trans ((hbW.mono hs7).trans hb4))
        have HR4 := Lib.hid (RowsV.put HR7.out HN9.out hs7 rfl HE3.out hown4 hg4 hv4 HTK.out)
        clear hown4 hg4 hv4 e1
        go_roundw
        case rel => exact ⟨k + 1, by omega, by go_num, HR4.out, HB4.out⟩
        case measure => simp [intOf]; omega
      · have hN9 : ShNew w7 wf w8.heap.size x SAe sce (linN p L K 1) := hwf ▸ ShNew.early (ShCell.new (w := w8) 0 (.slice none 0 0) rfl) zd (bl_alloc _ hb8') hbe hSe hOKe hOffe
        obtain ⟨g, hg⟩ : ∃ g, g = w8.heap.size := ⟨_, rfl⟩
        rw [← hg] at hN9 ⊢
        clear hg hwf
        have g0 := hN9.cell.c0
        have g1 := hN9.cell.c1
        have lg := hN9.cell.lt
        have HN9 := Lib.hid hN9
        have hz9 := hN9.below.size
        obtain ⟨W, hW⟩ : ∃ W, W = wf.alloc (.cells #[.int .i64 (x : Int), .slice SAe (linN p L K 1).length sce] 53) := ⟨_, rfl⟩
        have hbW : Below w7.heap.size w7 W := by rw [hW]; exact bl_alloc _ hN9.below
        have hWz : wf.heap.size ≤ W.heap.size := by rw [hW]; exact (below_alloc _ _).size
        obtain ⟨H, e1, e2, e3⟩ := (HR7.out.below hbW).ex
        have HE3 := Lib.hid (And.intro e1 (And.intro e2 e3))
        have hHl : H.length ≤ 100000 := by rw [e2, HLK.out]; omega
        clear e2 e3 hN9 hOffe hSe hOKe
        subst hW
        go_wp2_with (at_builtin; refine app_hv rfl (.tmp 54) (.tmp 56) rfl (base := w6.heap.size) (H := H) (v := .slice OA k oc) ((x : Int), .slice SAe (linN p L K 1).length sce) rfl e1 rfl (heap_alloc_new _ _) rfl (by omega) (by omega) ?_; intro v4 wg hown4 hg4 hb4 hv4)
        have HB4 := Lib.hid ((hbr.trans (hb7.mono hsz)).trans ((hbW.mono hs7).trans hb4))
        have HR4 := Lib.hid (RowsV.put HR7.out HN9.out hs7 rfl HE3.out hown4 hg4 hv4 HTK.out)
        clear hown4 hg4 hv4 e1
        go_roundw
        case rel => exact ⟨k + 1, by omega, by go_num, HR4.out, HB4.out⟩
        case measure => simp [intOf]; omega
      · have hN9 : ShNew w7 wf w7.heap.size x SAe sce (linN p L K 1) := hwf ▸ ShNew.early HRz.out (Nat.le_refl _) hb8' hbe hSe hOKe hOffe
        obtain ⟨g, hg⟩ : ∃ g, g = w7.heap.size := ⟨_, rfl⟩
        rw [← hg] at hN9 ⊢
        clear hg hwf
        have g0 := hN9.cell.c0
        have g1 := hN9.cell.c1
        have lg := hN9.cell.lt
        have HN9 := Lib.hid hN9
        have hz9 := hN9.below.size
        obtain ⟨W, hW⟩ : ∃ W, W = wf.alloc (.cells #[.int .i64 (x : Int), .slice SAe (linN p L K 1).length sce] 53) := ⟨_, rfl⟩
        have hbW : Below w7.heap.size w7 W := by rw [hW]; exact bl_alloc _ hN9.below
        have hWz : wf.heap.size ≤ W.heap.size := by rw [hW]; exact (below_alloc _ _).size
        obtain ⟨H, e1, e2, e3⟩ := (HR7.out.below hbW).ex
        have HE3 := Lib.hid (And.intro e1 (And.intro e2 e3))
        have hHl : H.length ≤ 100000 := by rw [e2, HLK.out]; omega
        clear e2 e3 hN9 hOffe hSe hOKe
        subst hW
        go_wp2_with (at_builtin; refine app_hv rfl (.tmp 54) (.tmp 56) rfl (base := w6.heap.size) (H := H) (v := .slice OA k oc) ((x : Int), .slice SAe (linN p L K 1).length sce) rfl e1 rfl (heap_alloc_new _ _) rfl (by omega) (by omega) ?_; intro v4 wg hown4 hg4 hb4 hv4)
        have HB4 := Lib.hid ((hbr.trans (hb7.mono hsz)).trans ((hbW.mono hs7).trans hb4))
        have HR4 := Lib.hid (RowsV.put HR7.out HN9.out hs7 rfl HE3.out hown4 hg4 hv4 HTK.out)
        clear hown4 hg4 hv4 e1
        go_roundw
        case rel => exact ⟨k + 1, by omega, by go_num, HR4.out, HB4.out⟩
        case measure => simp [intOf]; omega
    · obtain rfl : k = N.length := by omega
      have hX := HR.out
      rw [List.take_of_length_le (by rw [apT_len]; exact Nat.le_refl _)] at hX
      have HX := Lib.hid hX
      have HZ6 := Lib.hid hb6w.size
      clear hX
      go_wp2_with fail
      go_ret2
      exact ⟨OA, oc, w6.heap.size, HZ6.out, rfl, HX.out, hbw⟩
theorem apply_own {P P' : Nat → Prop} {p n h : Nat} {a b : List Nat} {N M : List ShN} (PN : PlanN p n h) (H : Full p n h a N) (K : Full p n h b M) (hab : a.length = b.length) (hm : a.length ≤ 2048) (A B : Option Addr) (ca cb : Nat) (w : World) (hB : Bases w) (hA : ShP P w A ca (shL N)) (hM : ShP P' w B cb (shL M)) :
    Calls Tryd.prog 25 #[planV p n h, .slice A h ca, .slice B h cb] w (OwnR (plusT p N M) h w) := by
  have hl : M.length = N.length := K.len.trans H.len.symm
  have gM := K.made.good PN.p1 (by omega)
  have hix : ∀ k, k < N.length → hasH M (hN N k) = true ∧ apI M (hN N k) = k := fun k hk => by
    have := apI_of gM (show k < M.length by omega)
    rw [K.ord k (by omega), ← H.ord k hk] at this; exact this
  have hok : apOk N M = true := by
    unfold apOk anyN
    rw [Bool.not_eq_true', List.any_eq_false]
    intro k hk
    simp [(hix k (List.mem_range.1 hk)).1]
  have hq : N.length = 0 ∨ (vN N 0).length = (vN M 0).length := by
    rcases Nat.eq_zero_or_pos N.length with h0 | h0
    · exact .inl h0
    · exact .inr (by rw [H.made.vlen h0, K.made.vlen (by omega), hab])
  have := apply_rows p n h A B ca cb h h N M w PN.pv hB PN.pl (H.made.good PN.p1 hm) gM hA hM H.len.symm K.len.symm (by rw [H.len]; have := PN.h7; omega) (by rw [K.len]; have := PN.h7; omega) hok hq
  rw [H.len] at this
  rw [show apT p N M = plusT p N M from by
    unfold apT plusT
    refine List.map_congr_left fun k hk => ?_
    rw [(hix k (List.mem_range.1 hk)).2]] at this
  exact this
end Go.Proofs.YtlhipgejiacklaaDoor
namespace Go.Proofs.YtlhipgejiacklaaDoor
open Go.RowKit

theorem lin_zeros {p m : Nat} (hp : 1 ≤ p) : linN p (List.replicate m 0) (List.replicate m 0) 1 = List.replicate m 0 := by
  have := lin_zero (p := p) (a := List.replicate m 0) (fun x hx => by rw [(List.mem_replicate.1 hx).2]; omega)
  rw [List.length_replicate] at this; exact this
theorem Full.plus0 {p n h m : Nat} {N M : List ShN} (P : PlanN p n h) (H : Full p n h (List.replicate m 0) N) (K : Full p n h (List.replicate m 0) M) : Full p n h (List.replicate m 0) (plusT p N M) := by
  have := H.plus P K rfl
  rw [lin_zeros P.p1] at this; exact this
theorem Full.plusZ {p n h : Nat} {a : List Nat} {N M : List ShN} (P : PlanN p n h) (H : Full p n h a N) (K : Full p n h (List.replicate a.length 0) M) (ha : ∀ x ∈ a, x < p) : Full p n h a (plusT p N M) := by
  have := H.plus P K (by rw [List.length_replicate])
  rw [lin_zero ha] at this; exact this
/-- The sum of several lists of zeros. -/
def sumN (p : Nat) : List ShN → List (List ShN) → List ShN
  | N, [] => N
  | N, M :: r => sumN p (plusT p N M) r
theorem sum_zeros {p n h m : Nat} (P : PlanN p n h) (hm : m ≤ 2048) : ∀ (Ms : List (List ShN)) (N : List ShN), Full p n h (List.replicate m 0) N → (∀ M ∈ Ms, Full p n h (List.replicate m 0) M) →
    sumR p h (shL N) (Ms.map shL) = (shL (sumN p N Ms), 0) ∧ Full p n h (List.replicate m 0) (sumN p N Ms)
  | [], N, H, _ => ⟨rfl, H⟩
  | M :: r, N, H, K => by
    have hM := K M (by simp)
    obtain ⟨e1, e2⟩ := ap_full P H hM rfl (by rw [List.length_replicate]; exact hm)
    have ih := sum_zeros P hm r (plusT p N M) (H.plus0 P hM) (fun X hX => K X (by simp [hX]))
    simp only [List.map_cons, sumR, sumN]
    rw [if_pos e1, e2]
    exact ih
theorem su_zeros {p n h m : Nat} (P : PlanN p n h) (hm : m ≤ 2048) (N : List ShN) (Ms : List (List ShN)) (H : Full p n h (List.replicate m 0) N) (K : ∀ M ∈ Ms, Full p n h (List.replicate m 0) M) :
    suE p h ((N :: Ms).map shL) = 0 ∧ suL p h ((N :: Ms).map shL) = shL (sumN p N Ms) ∧ Full p n h (List.replicate m 0) (sumN p N Ms) := by
  obtain ⟨e1, e2⟩ := sum_zeros P hm Ms N H K
  have hg : gdB p h (lsAt ((N :: Ms).map shL) 0) = true := H.gd P.p1 (by rw [List.length_replicate]; exact hm)
  refine ⟨?_, ?_, e2⟩
  · unfold suE; rw [if_neg (by simp), if_pos hg]
    show (sumR p h (shL N) (Ms.map shL)).2 = 0
    rw [e1]
  · unfold suL; rw [if_neg (by simp), if_pos hg]
    show (sumR p h (shL N) (Ms.map shL)).1 = _
    rw [e1]
theorem sum_full {P : Nat → Prop} {p n h m : Nat} (PN : PlanN p n h) (hm : m ≤ 2048) (N : List ShN) (Ms : List (List ShN)) (H : Full p n h (List.replicate m 0) N) (K : ∀ M ∈ Ms, Full p n h (List.replicate m 0) M) (A : Option Addr) (c kL : Nat) (w : World) (hB : Bases w)
    (hA : ListsP P w A c ((N :: Ms).map shL)) (hk : kL = Ms.length + 1) (hl : Ms.length ≤ 1000) :
    Calls Tryd.prog 24 #[planV p n h, .slice A kL c] w (DealR (sumN p N Ms) h w) := by
  obtain ⟨e1, e2, e3⟩ := su_zeros PN hm N Ms H K
  have hsh : ShortLs ((N :: Ms).map shL) := fun k hk => by
    have hk' : k < (N :: Ms).length := by simpa using hk
    have hF : Full p n h (List.replicate m 0) ((N :: Ms)[k]) := by
      have := List.getElem_mem hk'
      rcases List.mem_cons.1 this with h0 | h0
      · rw [h0]; exact H
      · exact K _ h0
    have : lsAt ((N :: Ms).map shL) k = shL ((N :: Ms)[k]) := by
      unfold lsAt
      rw [List.getD_eq_getElem?_getD, List.getElem?_map, List.getElem?_eq_getElem hk']; rfl
    rw [this]
    exact ⟨hF.short (by rw [List.length_replicate]; omega), by rw [shL_len, hF.len]; have := PN.h7; omega⟩
  have := sum_any p n h A c kL ((N :: Ms).map shL) w PN hB hA hsh (by simp [hk]) (by simp; omega)
  rw [e1, e2] at this
  refine this.mono ?_
  rintro e w' ⟨A', c', rfl, h1, h2⟩
  exact ⟨A', c', by rw [shL_len, e3.len], h1, h2⟩
/-- Two lists in a literal. -/
theorem lists_two {P : Nat → Prop} {w : World} {g h : Nat} {A B : Option Addr} {ca cb : Nat} {N M : List ShN} (hg : w.heap[g]? = some (.cells #[.slice A h ca, .slice B h cb] 31 (0, 0))) (hP : P g) (hA : ShP P w A ca (shL N)) (hB : ShP P w B cb (shL M)) (hN : N.length = h) (hM : M.length = h) :
    ListsP P w (some ⟨g, 0, none⟩) 2 (([N, M]).map shL) := by
  refine ⟨fun k hk => ?_, ⟨Nat.le_refl _, by unfold maxLen; omega, (fun e => by cases e), .inr (fun a e => by injection e with e; subst e; rfl)⟩⟩
  have hk : k = 0 ∨ k = 1 := by simp at hk; omega
  rcases hk with rfl | rfl
  · exact ⟨g, 0, A, ca, rfl, blk_lt hg, hP, by rw [cell_of_row w g _ _ _ (0, 0) hg]; show some _ = some (Value.slice A (shL N).length ca); rw [shL_len, hN]; rfl, hA⟩
  · exact ⟨g, 0, B, cb, rfl, blk_lt hg, hP, by rw [cell_of_row w g _ _ _ (0, 0) hg]; show some _ = some (Value.slice B (shL M).length cb); rw [shL_len, hM]; rfl, hB⟩
theorem fadd_swap (p l a b : Nat) : fadd p l (fmul p 1 (fadd p a (fmul p 1 b))) = fadd p (fadd p l (fmul p 1 b)) (fmul p 1 a) := by
  unfold fadd fmul
  simp only [Nat.one_mul, Nat.add_mod_mod, Nat.mod_add_mod, Nat.mod_mod]
  congr 1; omega
theorem lin_swap {p : Nat} {L A B : List Nat} (h1 : A.length = L.length) (h2 : B.length = L.length) : linN p L (linN p A B 1) 1 = linN p (linN p L B 1) A 1 := by
  refine extN (by simp only [linN_len]; omega) fun i hi => ?_
  have hi' : i < L.length := by simp only [linN_len] at hi; omega
  rw [linN_nth (by simp only [linN_len]; omega), linN_nth (by omega), linN_nth (by simp only [linN_len]; omega), linN_nth (by omega)]
  exact fadd_swap _ _ _ _
theorem plus_swap {p n h : Nat} {s a b : List Nat} {N Z Y : List ShN} (H : Full p n h s N) (K : Full p n h a Z) (J : Full p n h b Y) (h1 : a.length = s.length) (h2 : b.length = s.length) : plusT p N (plusT p Z Y) = plusT p (plusT p N Y) Z := by
  refine shl_ext (by rw [plusT_len, plusT_len, plusT_len]) fun k hk => ?_
  rw [plusT_len] at hk
  have hkZ : k < Z.length := by rw [K.len, ← H.len]; exact hk
  have hkY : k < Y.length := by rw [J.len, ← H.len]; exact hk
  rw [(plusT_at hk).1, (plusT_at hk).2, (plusT_at (show k < (plusT p N Y).length by rw [plusT_len]; exact hk)).1, (plusT_at (show k < (plusT p N Y).length by rw [plusT_len]; exact hk)).2, (plusT_at hk).1, (plusT_at hk).2, (plusT_at hkZ).2]
  exact ⟨rfl, lin_swap (by rw [K.made.vlen hkZ, H.made.vlen hk, h1]) (by rw [J.made.vlen hkY, H.made.vlen hk, h2])⟩
end Go.Proofs.YtlhipgejiacklaaDoor
namespace Go.Proofs.YtlhipgejiacklaaDoor
open Go.RowKit

/-- Two polynomials that agree at as many places as they have coefficients agree everywhere. -/
theorem uniqE {p : Nat} (hp : PrimeN p) {xs : List Nat} (hx : ∀ y ∈ xs, y < p) (hn : xs.Nodup) {L M : List Nat} (hL : L.length ≤ xs.length) (hM : M.length ≤ xs.length) (h : ∀ i, i < xs.length → evN p L (nthN xs i) = evN p M (nthN xs i)) (x : Nat) : evN p L x = evN p M x := by
  have hy : ∀ i, i < xs.length → nthN (xs.map fun y => evN p L y) i = evN p L (nthN xs i) := fun i hi => by
    rw [nthN_eq (by simpa using hi), nthN_eq hi]; simp
  rw [← interpN hp hx hn hL hy x, interpN hp hx hn hM (fun i hi => (hy i hi).trans (h i hi)) x]
def movB (L : List Nat) : Bool := L.any fun x => x != 0
def oldT (p : Nat) (N Z : List ShN) (k : Nat) : List ShN := (plusT p N Z).set k (hN N k, vN N k)
theorem oldT_len (p : Nat) (N Z : List ShN) (k : Nat) : (oldT p N Z k).length = N.length := by simp [oldT, plusT_len]
theorem oldT_at {p k j : Nat} {N Z : List ShN} (hj : j < N.length) : hN (oldT p N Z k) j = hN N j ∧ vN (oldT p N Z k) j = if j = k then vN N k else linN p (vN N j) (vN Z j) 1 := by
  unfold oldT
  by_cases h : j = k
  · subst h
    have := set_at (S := plusT p N Z) (k := j) (a := hN N j) (b := vN N j) (by rw [plusT_len]; exact hj)
    rw [if_pos rfl]; exact this
  · have e1 : hN ((plusT p N Z).set k (hN N k, vN N k)) j = hN (plusT p N Z) j ∧ vN ((plusT p N Z).set k (hN N k, vN N k)) j = vN (plusT p N Z) j := by
      have hkj : ¬ k = j := fun e => h e.symm
      simp [hN, vN, List.getD_eq_getElem?_getD, hkj]
    rw [e1.1, e1.2, (plusT_at hj).1, (plusT_at hj).2, if_neg h]
    exact ⟨rfl, rfl⟩
theorem old_good {p n h k : Nat} {s : List Nat} {N Z : List ShN} (P : PlanN p n h) (H : Full p n h s N) (K : Full p n h (List.replicate s.length 0) Z) (hm : s.length ≤ 2048) : GoodN p h (oldT p N Z k) := by
  have hl : Z.length = N.length := K.len.trans H.len.symm
  have gN := H.made.good P.p1 hm
  have hlen : ∀ j, j < N.length → (vN (oldT p N Z k) j).length = s.length := fun j hj => by
    rw [(oldT_at hj).2]
    split
    · rename_i e; subst e; exact H.made.vlen hj
    · rw [linN_len, H.made.vlen hj, K.made.vlen (by omega)]; simp
  refine ⟨fun j hj => ?_, fun j hj => ?_, fun j hj => ?_, nodup_hsN fun i hi j hj => ?_⟩
  · rw [oldT_len] at hj
    obtain ⟨h1, h2, h3⟩ := gN.rng j hj
    rw [(oldT_at hj).1, (oldT_at hj).2]
    refine ⟨h1, h2, ?_⟩
    split
    · rename_i e; subst e; exact h3
    · exact linN_lt P.p1
  · rw [oldT_len] at hj
    rw [hlen j hj, hlen 0 (by omega)]
  · rw [oldT_len] at hj
    rw [hlen j hj]; exact hm
  · rw [oldT_len] at hi
    rw [(oldT_at hi).1, (oldT_at (show j < N.length by omega)).1, H.ord i hi, H.ord j (by omega)]; omega
theorem old_same {p n h k : Nat} {s : List Nat} {N Z : List ShN} (P : PlanN p n h) (H : Full p n h s N) (K : Full p n h (List.replicate s.length 0) Z) (hm : s.length ≤ 2048) (hk : k < h) (hz : movB (vN Z k) = false) : oldT p N Z k = plusT p N Z := by
  refine shl_ext (by rw [oldT_len, plusT_len]) fun j hj => ?_
  rw [oldT_len] at hj
  rw [(oldT_at hj).1, (oldT_at hj).2, (plusT_at hj).1, (plusT_at hj).2]
  refine ⟨rfl, ?_⟩
  split
  · rename_i e
    subst e
    have h1 : vN Z j = List.replicate (vN N j).length 0 := by
      unfold movB at hz
      rw [List.any_eq_false] at hz
      have hl := K.made.vlen (show j < Z.length by rw [K.len]; exact hk)
      rw [List.length_replicate] at hl
      rw [List.eq_replicate_iff]
      exact ⟨by rw [hl, H.made.vlen hj], fun b hb => by have := hz b hb; simpa using this⟩
    rw [h1, lin_zero ((H.made.good P.p1 hm).rng j hj).2.2]
  · rfl
theorem old_not {p n h k : Nat} {s : List Nat} {N Z : List ShN} (P : PlanN p n h) (H : Full p n h s N) (K : Full p n h (List.replicate s.length 0) Z) (hm : s.length ≤ 2048) (hk : k < h) (hz : movB (vN Z k) = true) (hn : n < h) : ¬ FitP p n (oldT p N Z k) := fun hfit => by
  have hl : Z.length = N.length := K.len.trans H.len.symm
  have hNl := H.len
  obtain ⟨F, F1, F2, -⟩ := H.made.ex
  obtain ⟨G, G1, G2, -⟩ := K.made.ex
  rw [List.length_replicate] at G1 G2
  have hkN : k < N.length := by omega
  -- the value that is not 0
  obtain ⟨i, hi, hi0⟩ : ∃ i, i < s.length ∧ nthN (vN Z k) i ≠ 0 := by
    unfold movB at hz
    rw [List.any_eq_true] at hz
    obtain ⟨x, hx, hx0⟩ := hz
    obtain ⟨i, hi, rfl⟩ := List.getElem_of_mem hx
    have hvl := K.made.vlen (show k < Z.length by omega)
    rw [List.length_replicate] at hvl
    exact ⟨i, by omega, by rw [nthN_eq hi]; simpa using hx0⟩
  have hT : (oldT p N Z k).length = h := by rw [oldT_len]; exact hNl
  have g := old_good (k := k) P H K hm
  have gT := g.take n (by omega)
  have hTl : ((oldT p N Z k).take n).length = n := by rw [List.length_take]; omega
  have hxs : ∀ y ∈ hsN ((oldT p N Z k).take n), y < p := gT.hlt P.hp
  have hcs : ∀ y ∈ colN ((oldT p N Z k).take n) i, y < p := gT.clt P.p1 i
  -- the polynomial through the first ones
  have hQl : (thN p (hsN ((oldT p N Z k).take n)) (colN ((oldT p N Z k).take n) i)).length ≤ n := by have := thN_len p (hsN ((oldT p N Z k).take n)) (colN ((oldT p N Z k).take n) i); rw [hsN_len, hTl] at this; exact this
  have hQ0 : ∀ j, j < n → evN p (thN p (hsN ((oldT p N Z k).take n)) (colN ((oldT p N Z k).take n) i)) (hN N j) = nthN (vN (oldT p N Z k) j) i := fun j hj => by
    have := thN_at P.pr hxs gT.nd hcs (j := j) (by rw [hsN_len, hTl]; exact hj)
    rw [hsN_nth (by omega), colN_nth (by omega), hN_take hj, vN_take hj, (oldT_at (show j < N.length by omega)).1] at this
    exact this
  generalize hQ : thN p (hsN ((oldT p N Z k).take n)) (colN ((oldT p N Z k).take n) i) = Q at *
  have hv0 : (vN (oldT p N Z k) 0).length = s.length := by
    rw [(oldT_at (show 0 < N.length by omega)).2]
    split
    · rename_i e; subst e; exact H.made.vlen (by omega)
    · rw [linN_len, H.made.vlen (by omega), K.made.vlen (by omega)]; simp
  have hQ1 : ∀ j, n ≤ j → j < h → evN p Q (hN N j) = nthN (vN (oldT p N Z k) j) i := fun j h1 h2 => by
    have := hfit j h1 (by omega) i (by omega)
    unfold fitAt at this
    rw [(oldT_at (show j < N.length by omega)).1] at this
    rw [← this]
    have hin := interpN (L := Q) (ys := colN ((oldT p N Z k).take n) i) P.pr hxs gT.nd (by rw [hsN_len, hTl]; exact hQl) (fun t ht => by
      rw [hsN_len, hTl] at ht
      rw [colN_nth (by omega), hsN_nth (by omega), hN_take ht, vN_take ht, (oldT_at (show t < N.length by omega)).1, hQ0 t ht]) (hN N j)
    rw [hsN_len, hTl] at hin
    exact hin.symm
  have hQa : ∀ j, j < h → evN p Q (hN N j) = nthN (vN (oldT p N Z k) j) i := fun j hj => by
    rcases Nat.lt_or_ge j n with h1 | h1
    · exact hQ0 j h1
    · exact hQ1 j h1 hj
  -- the polynomial of the new shares
  have hPv : ∀ j, j < h → evN p (linN p (F i) (G i) 1) (hN N j) = nthN (linN p (vN N j) (vN Z j) 1) i := fun j hj => by
    have hjN : j < N.length := by omega
    have hjZ : j < Z.length := by omega
    rw [ev_lin P.p1, linN_nth (by rw [H.made.vlen hjN]; omega), F1.val hjN hi, G1.val hjZ hi]
    rw [H.ord j hjN, K.ord j hjZ]
  have hPl : (linN p (F i) (G i) 1).length ≤ n := by rw [linN_len]; have := F2 i hi; have := G2 i hi; omega
  -- they agree at all others
  obtain ⟨xs, hxl, hxn, hxx⟩ : ∃ xs : List Nat, xs.length = n ∧ xs.Nodup ∧ ∀ y ∈ xs, ∃ j, j < h ∧ j ≠ k ∧ y = j + 1 := by
    refine ⟨(((List.range h).erase k).take n).map (· + 1), ?_, ?_, ?_⟩
    · rw [List.length_map, List.length_take, List.length_erase_of_mem (List.mem_range.2 hk), List.length_range]; omega
    · have h1 : (((List.range h).erase k).take n).Nodup := ((List.nodup_range.erase k)).sublist (List.take_sublist _ _)
      exact nodup_map_inj _ h1 (fun a _ b _ e => by omega)
    · intro y hy
      obtain ⟨j, hj, rfl⟩ := List.mem_map.1 hy
      have hj' := List.mem_of_mem_take hj
      have hj2 := (List.Nodup.mem_erase_iff List.nodup_range).1 hj'
      exact ⟨j, List.mem_range.1 hj2.2, hj2.1, rfl⟩
  have heq := uniqE (L := linN p (F i) (G i) 1) (M := Q) P.pr (xs := xs) (fun y hy => by obtain ⟨j, h1, -, rfl⟩ := hxx y hy; have := P.hp; omega) hxn (by rw [hxl]; exact hPl) (by rw [hxl]; exact hQl) (fun t ht => by
    obtain ⟨j, h1, h2, h3⟩ := hxx _ (nthN_mem ht)
    rw [h3, ← H.ord j (by omega), hQa j h1, hPv j h1, (oldT_at (show j < N.length by omega)).2, if_neg h2]) (hN N k)
  rw [hQa k hk, hPv k hk, (oldT_at hkN).2, if_pos rfl, linN_nth (by rw [H.made.vlen hkN]; omega)] at heq
  have hzp : nthN (vN Z k) i < p := nthN_lt P.p1 ((K.made.good P.p1 (by rw [List.length_replicate]; exact hm)).rng k (by omega)).2.2 i
  have hnp : nthN (vN N k) i < p := nthN_lt P.p1 ((H.made.good P.p1 hm).rng k hkN).2.2 i
  rw [fmul_one hzp] at heq
  unfold fadd at heq
  generalize nthN (vN Z k) i = z at *
  generalize nthN (vN N k) i = x at *
  rcases Nat.lt_or_ge (x + z) p with h1 | h1
  · rw [Nat.mod_eq_of_lt h1] at heq; omega
  · rw [Nat.mod_eq_sub_mod h1, Nat.mod_eq_of_lt (by omega)] at heq; omega
theorem old_fits {p n h k : Nat} {s : List Nat} {N Z : List ShN} (hsp : ∀ x ∈ s, x < p) (P : PlanN p n h) (H : Full p n h s N) (K : Full p n h (List.replicate s.length 0) Z) (hm : s.length ≤ 2048) (hk : k < h) : ftB p n h (shL (oldT p N Z k)) = (!movB (vN Z k) || decide ((h : Int) = (n : Int))) := by
  cases hz : movB (vN Z k) with
  | false => rw [old_same P H K hm hk hz, (H.plusZ P K hsp).made.ft P hm]; rfl
  | true =>
    have hg : gdB p h (shL (oldT p N Z k)) = true := (gdB_yes (gd_back (old_good P H K hm))).symm
    by_cases hhn : (h : Int) = n
    · rw [decide_eq_true hhn]
      exact (ftB_few P.pl hg (by rw [shL_len, oldT_len, H.len]; omega)).symm
    · rw [decide_eq_false hhn]
      have hnh := P.nh
      have := ftB_more P.pl hg (by rw [shL_len, oldT_len, H.len]; omega)
      rw [natL_shL, Int.toNat_natCast, Int.toNat_natCast] at this
      rw [← this]
      unfold fitB
      exact @decide_eq_false _ (Classical.propDecidable _) (old_not P H K hm hk hz (by omega))
end Go.Proofs.YtlhipgejiacklaaDoor
namespace Go.Proofs.YtlhipgejiacklaaDoor
open Go.RowKit

attribute [local go_sem high] sliced_low
set_option maxRecDepth 100000 in
set_option maxHeartbeats 8000000 in
theorem refreshOld_walk (A0 : Option Addr) (L0 : List Int) (c0 : Nat) (which : Int) (w : World) (hB : Bases w) (hl0 : L0.length ≤ maxLen) (hI0 : IntsAt w A0 L0) (_ : ∀ n ∈ L0, -9223372036854775808 ≤ n ∧ n ≤ 9223372036854775807) (_ : -9223372036854775808 ≤ which ∧ which ≤ 9223372036854775807) :
    Calls Tryd.prog 6 #[.slice A0 L0.length c0, .int .i64 which] w (RetB (.bool true) w) := by
  have HB := Lib.hid hB
  clear hB
  by_cases hlight : (L0.length : Int) ≤ 500
  · have hL := light_any A0 L0.length c0 w
    rw [decide_eq_true hlight] at hL
    have HLt := Lib.hid hL
    clear hL hlight
    go_enter Tryd.func6, Tryd.ntmps6
    go_wp2_with fail
    refine ret_pure HLt.out ?_
    clear HLt
    go_wp2_with fail
    refine (roll_any A0 L0 c0 _ hl0 hI0).mono ?_
    rintro e w1 ⟨D, rfl, hDs, hD, hb1⟩
    have hE1 : Env w w1 D L0 := ⟨hD, hDs, hb1⟩
    clear hI0 hD hb1
    go_wp2_with fail
    refine (prime_any D L0 _ hE1.dice).mono ?_
    rintro e w2 ⟨p, rfl, hpp, hp5, -, hD2, hg2⟩
    have hE2 := hE1.next hD2 hg2
    have h2 := hpp.1
    have h1 : 1 ≤ p := by omega
    have hp2 : p ≤ 2147483648 := by omega
    have HPP := Lib.hid hpp
    clear hg2 hD2 hE1 hpp
    go_wp2_with fail
    refine (plan_any D _ p _ hE2.dice h2 hp2).mono ?_
    rintro e w3 ⟨n, h, R3, rfl, ⟨hn1, hnh, hh7, hhp⟩, hD3, hg3⟩
    have hE3 := hE2.next hD3 hg3
    have HPN := Lib.hid (PlanN.mk' HPP.out (by omega) hn1 hnh hh7 hhp)
    clear hD3 hg3 hE2 HPP
    go_wp2_with fail
    refine gen_calls fun w4 hw4 => ?_
    have HP : Hid (PlanCell w4 w3.heap.size p n h) := Lib.hid (by rw [hw4]; exact PlanCell.new _ _ _ rfl)
    have hE : Env w w4 D R3 := hE3.mv (by rw [hw4]; exact below_alloc _ _)
    have hxD : w3.heap.size ≠ D := by have := hE3.lt; omega
    have hlx := HP.out.lt
    have p0 := HP.out.c0
    have p1 := HP.out.c1
    have p2 := HP.out.c2
    generalize w3.heap.size = px at *
    clear hw4 hE3
    refine (dealt_any D _ p n h 2 _ hE.dice HPN.out (by omega) (by omega)).mono ?_
    rintro e w5 ⟨SA, sc, sec, LA, lc, ran, R5, rfl, hDN, hS, hL, hD5, hg5⟩
    replace hE := hE.next hD5 hg5; replace HP := Lib.hid (HP.out.mv hg5 hxD); replace p0 := HP.out.c0; replace p1 := HP.out.c1; replace p2 := HP.out.c2
    have HS := Lib.hid hS
    have HL := Lib.hid hL
    have HDN := Lib.hid hDN
    have hq1 : 1 ≤ sec.length := hDN.lo
    have hq2 : sec.length ≤ 2 := hDN.hi
    have HF := Lib.hid (Full.deal HPN.out hDN.sp hDN.rp)
    obtain ⟨N, hN⟩ : ∃ N, N = dealN p n h sec ran := ⟨_, rfl⟩
    rw [← hN] at HL HF
    clear hDN hS hL hD5 hg5 hN
    go_wp2_with fail
    obtain ⟨rl, hrl⟩ : ∃ rl, rl = sec.length * (n - 1) := ⟨_, rfl⟩
    have hrl2 : rl ≤ 1048576 := by rw [hrl]; have := Nat.mul_le_mul hq2 (show n - 1 ≤ 7 by omega); omega
    have HRN := Lib.hid (fun (W : World) => refRandom_nat p n h sec.length rl W hrl hn1 (by omega) (by omega))
    have HRL := Lib.hid hrl
    clear hrl
    go_region_held3 (fun w' => w'.cell? ⟨px, 0, none⟩ = some (.int .i64 (p : Int)) ∧ w'.cell? ⟨px, 1, none⟩ = some (.int .i64 (n : Int)) ∧ w'.cell? ⟨px, 2, none⟩ = some (.int .i64 (h : Int))) (first | go_keep)
      (first
        | (go_at_call 22; refine ret_below (HRN.out _) ?_; intro waa hb; have hbaa : Below w5.heap.size w5 waa := (below_undrew1 hb); replace hE := hE.mv hbaa; replace HP := Lib.hid (HP.out.below hbaa); replace p0 := HP.out.c0; replace p1 := HP.out.c1; replace p2 := HP.out.c2; replace HS := Lib.hid (HS.out.below hbaa); replace HL := Lib.hid (HL.out.below hbaa))
        | (go_at_call 21; refine (elements_any D _ p rl _ hE.dice h1 hp2 hrl2).mono ?_; intro e wba he; obtain ⟨RAa, rca, raa, RRa, rfl, hrnla, hrpa, hRa, hDba, hgba⟩ := elems_held hE.lt he; have HRNLa := Lib.hid hrnla; clear hrnla; replace hE := hE.next hDba hgba; replace HP := Lib.hid (HP.out.mv hgba hxD); replace p0 := HP.out.c0; replace p1 := HP.out.c1; replace p2 := HP.out.c2; replace HS := Lib.hid (HS.out.mv hgba); replace HL := Lib.hid (HL.out.mv hgba))
        | (go_at_call 20; refine (zero_made p n h sec.length _ HPN.out (by omega) RAa rca raa _ (hE.bases HB.out) hRa.nats hRa.ok (by have := HRNLa.out; omega) hrpa (by exact HRNLa.out.trans HRL.out) rfl).mono ?_; rintro e wca ⟨ZAa, zca, rfl, hZa, hbca⟩; have HZa := Lib.hid (hZa.away hE.lt); replace hE := hE.mv hbca; replace HP := Lib.hid (HP.out.below hbca); replace p0 := HP.out.c0; replace p1 := HP.out.c1; replace p2 := HP.out.c2; replace HS := Lib.hid (HS.out.below hbca); replace HL := Lib.hid (HL.out.below hbca)))
    have HFa := Lib.hid (Full.deal HPN.out (sec := List.replicate sec.length 0) (fun x hx => by rw [(List.mem_replicate.1 hx).2]; omega) hrpa)
    obtain ⟨Za, hza⟩ : ∃ Z, Z = dealN p n h (List.replicate sec.length 0) raa := ⟨_, rfl⟩
    rw [← hza] at HZa HFa
    clear he hRa hrpa hDba hgba hbaa hbca hZa hza HRNLa hb
    go_wp2_with fail
    have hrep : (List.replicate sec.length 0).length = sec.length := List.length_replicate
    have HREP := Lib.hid hrep
    clear hrep
    have HL0 := Lib.hid (HL.out.mono (Q := fun b => b < wca.heap.size) (fun b hb _ => hb))
    have HZ0 := Lib.hid (HZa.out.mono (Q := fun b => b < wca.heap.size) (fun b hb _ => hb))
    refine (apply_own HPN.out HF.out HFa.out HREP.out.symm (by omega) LA ZAa lc zca _ (hE.bases HB.out) HL.out HZa.out).mono ?_
    rintro e w8 ⟨XA, xc, bs, hbs, rfl, hX, hb8⟩
    have hDB : D < bs := by have := hE.lt; omega
    have hxB : px < bs := by have := HP.out.lt; omega
    replace hE := hE.mv hb8; replace HP := Lib.hid (HP.out.below hb8); replace p0 := HP.out.c0; replace p1 := HP.out.c1; replace p2 := HP.out.c2; replace HS := Lib.hid (HS.out.below hb8); replace HL := Lib.hid (HL.out.below hb8); replace HZa := Lib.hid (HZa.out.below hb8)
    have HX := Lib.hid hX
    replace HL0 := Lib.hid ((HL0.out.below hb8).mono (Q := fun b => b < bs) (fun b _ hb => by omega))
    replace HZ0 := Lib.hid (HZ0.out.below hb8)
    clear hX hb8
    go_wp2_with fail
    refine ret_pure (mod_any _ _ _ (by omega)) ?_
    obtain ⟨kk, hkk, hkh⟩ : ∃ kk : Nat, modI which (h : Int) = (kk : Int) ∧ kk < h := by have := modI_range which h (by omega); exact ⟨(modI which h).toNat, by omega, by omega⟩
    rw [hkk]
    clear hkk
    have hNl := HF.out.len
    have hZl := HFa.out.len
    obtain ⟨b1, o1, B1, c1, rfl, hb1, -, x0, x1, hXl, hXI⟩ := HL0.out.nat (show kk < N.length by omega)
    obtain ⟨b2, o2, B2, c2, rfl, hb2, -, u0, u1, hUl, -⟩ := HZ0.out.nat (show kk < Za.length by omega)
    have hi1 : (0 : Int) ≤ (kk : Int) := by omega
    have hi2 : (kk : Int) < (h : Int) := by omega
    have HVZ := Lib.hid (HFa.out.made.vlen (show kk < Za.length by omega))
    have HNV := Lib.hid (And.intro (HF.out.ord kk (by omega)) trivial)
    have HXI := Lib.hid hXI
    have HU := Lib.hid hUl
    have HFO := Lib.hid (old_fits (k := kk) HDN.out.sp HPN.out HF.out HFa.out (by omega) hkh)
    have HSH := Lib.hid (old_good (k := kk) HPN.out HF.out HFa.out (by omega))
    have HSE := Lib.hid (show oldT p N Za kk = (plusT p N Za).set kk (hN N kk, vN N kk) from rfl)
    have HOL := Lib.hid ((oldT_len p N Za kk).trans hNl)
    have HXLN := Lib.hid (show (shL (plusT p N Za)).length = h by rw [shL_len, plusT_len, hNl])
    have hvz : (vN Za kk).length ≤ 2 := by rw [HVZ.out, HREP.out]; exact hq2
    obtain ⟨H0, eH, eL, -⟩ := HX.out.ex
    obtain ⟨g, xc', hgv, hg, hgb, -, -, hgc, hgf⟩ := eH.form (by rw [eL, HXLN.out]; omega)
    injection hgv with v1 v2 v3
    subst v1
    obtain ⟨g0, g1⟩ := hgc kk (by rw [eL, HXLN.out]; exact hkh)
    have gf0 := hgf (kk * 2)
    have gf1 := hgf (kk * 2 + 1)
    generalize hVV : vN Za kk = V at *
    generalize hLL : vN N kk = L at *
    generalize hxx : hN N kk = x at *
    have HVX := Lib.hid (And.intro hVV (And.intro hLL hxx))
    clear hVV hLL hxx hXl hXI hUl hNl hZl eH eL hgc hgf v2 v3 HNV
    go_wp2_with fail
    go_loopw [14, 85] (fun b i wr => ∃ j : Nat, j ≤ V.length ∧ i = .int .i64 j ∧ b = .bool (movB (V.take j)) ∧ wr = w8) (fun _ i _ => V.length - (intOf i).toNat)
    case atStart => exact ⟨0, Nat.zero_le _, rfl, rfl, rfl⟩
    case round =>
      obtain ⟨j, hj, rfl, rfl, hww⟩ := hrel
      subst hww
      by_cases hlt : j < V.length
      · obtain ⟨b, off, rfl, hbl, y0⟩ := HU.out j hlt
        have HTK := Lib.hid (show movB (V.take (j + 1)) = (movB (V.take j) || (nthN V j != 0)) from by
          unfold movB
          rw [List.take_succ_eq_append_getElem hlt, List.any_append, nthN_eq hlt]; simp)
        generalize movB (V.take j) = zb at *
        generalize nthN V j = y at *
        cases zb with
        | true =>
          go_wp2_with fail
          go_roundw
          case rel => exact ⟨j + 1, by omega, by go_num, by rw [HTK.out]; rfl, trivial⟩
          case measure => simp [intOf]; omega
        | false =>
          by_cases hx0 : y = 0
          · subst hx0
            go_wp2_with fail
            go_roundw
            case rel => exact ⟨j + 1, by omega, by go_num, by rw [HTK.out]; rfl, trivial⟩
            case measure => simp [intOf]; omega
          · have t1 : ((y : Int) != 0) = true := by simp; omega
            have HX0 := Lib.hid (show (y != 0) = true by simp [hx0])
            clear hx0
            go_wp2_with fail
            go_roundw
            case rel => exact ⟨j + 1, by omega, by go_num, by rw [HTK.out, HX0.out]; rfl, trivial⟩
            case measure => simp [intOf]; omega
      · obtain rfl : j = V.length := by omega
        rw [List.take_length]
        generalize movB V = zb at *
        have HFC := Lib.hid (fun (W : World) (P : Nat → Prop) (hS : ShP P W (some ⟨g, 0, none⟩) xc (shL (oldT p N Za kk))) => show Calls Tryd.prog 26 #[planV p n h, .slice (some ⟨g, 0, none⟩) h xc] W (RetB (.bool (!zb || decide ((h : Int) = (n : Int)))) W) from by
          have := refFits_any p n h (some ⟨g, 0, none⟩) xc (shL (oldT p N Za kk)) W HPN.out.pv hS (short_shL fun j hj => by have := HSH.out.few j hj; omega) (by rw [shL_len, HOL.out]; omega)
          rw [HFO.out, shL_len, HOL.out] at this; exact this)
        have hst := HX.out.set (x := (x : Int)) (L := ofN L) (k := kk) HXLN.out.symm (by rw [HXLN.out]; exact hkh) HXI.out
        rw [len_ofN, show (shL (plusT p N Za)).set kk ((x : Int), ofN L) = shL (oldT p N Za kk) from by rw [HSE.out]; simp [shL, List.map_set, shI]] at hst
        have HSTT := Lib.hid hst
        clear hst
        cases zb with
        | false =>
          go_wp2_with fail
          refine gen_calls fun w9 hw9 => ?_
          have hst := HSTT.out
          rw [← hw9] at hst
          have hE9 := hE.app hDB hst.2
          have HP9 := Lib.hid (HP.out.keep (hst.2.block px hxB))
          have q0 := HP9.out.c0
          have q1 := HP9.out.c1
          have q2 := HP9.out.c2
          clear hw9 HSTT p0 p1 p2 x0 x1 u0 u1 g0 g1 gf0 gf1
          refine ret_below (HFC.out w9 _ hst.1) fun wa hba => ?_
          have hEa := hE9.mv hba
          have HPa := Lib.hid (HP9.out.below hba)
          have r0 := HPa.out.c0
          have r1 := HPa.out.c1
          have r2 := HPa.out.c2
          clear q0 q1 q2 HFC hst
          go_wp2_with fail
          refine ret_below (awake8 _ (hEa.bases HB.out)) ?_
          intro wz hbz
          go_wp2_with fail
          go_ret
          exact RetB.bool rfl (hEa.mv hbz).below
        | true =>
          by_cases hhn : (h : Int) = (n : Int)
          · rw [decide_eq_true hhn] at HFC
            have t9 : ((h : Int) == (n : Int)) = true := by simp [hhn]
            clear hhn
            go_wp2_with fail
            refine gen_calls fun w9 hw9 => ?_
            have hst := HSTT.out
            rw [← hw9] at hst
            have hE9 := hE.app hDB hst.2
            have HP9 := Lib.hid (HP.out.keep (hst.2.block px hxB))
            have q0 := HP9.out.c0
            have q1 := HP9.out.c1
            have q2 := HP9.out.c2
            clear hw9 HSTT p0 p1 p2 x0 x1 u0 u1 g0 g1 gf0 gf1
            refine ret_below (HFC.out w9 _ hst.1) fun wa hba => ?_
            have hEa := hE9.mv hba
            have HPa := Lib.hid (HP9.out.below hba)
            have r0 := HPa.out.c0
            have r1 := HPa.out.c1
            have r2 := HPa.out.c2
            clear q0 q1 q2 HFC hst
            go_wp2_with fail
            refine ret_below (awake8 _ (hEa.bases HB.out)) ?_
            intro wz hbz
            go_wp2_with fail
            go_ret
            exact RetB.bool rfl (hEa.mv hbz).below
          · rw [decide_eq_false hhn] at HFC
            have t9 : ((h : Int) == (n : Int)) = false := by simp [hhn]
            clear hhn
            go_wp2_with fail
            refine gen_calls fun w9 hw9 => ?_
            have hst := HSTT.out
            rw [← hw9] at hst
            have hE9 := hE.app hDB hst.2
            have HP9 := Lib.hid (HP.out.keep (hst.2.block px hxB))
            have q0 := HP9.out.c0
            have q1 := HP9.out.c1
            have q2 := HP9.out.c2
            clear hw9 HSTT p0 p1 p2 x0 x1 u0 u1 g0 g1 gf0 gf1
            refine ret_below (HFC.out w9 _ hst.1) fun wa hba => ?_
            have hEa := hE9.mv hba
            have HPa := Lib.hid (HP9.out.below hba)
            have r0 := HPa.out.c0
            have r1 := HPa.out.c1
            have r2 := HPa.out.c2
            clear q0 q1 q2 HFC hst
            go_wp2_with fail
            refine ret_below (awake8 _ (hEa.bases HB.out)) ?_
            intro wz hbz
            go_wp2_with fail
            go_ret
            exact RetB.bool rfl (hEa.mv hbz).below
  · have hL := light_any A0 L0.length c0 w
    rw [decide_eq_false hlight] at hL
    have HLt := Lib.hid hL
    clear hL
    go_enter Tryd.func6, Tryd.ntmps6
    go_wp2_with fail
    refine ret_pure HLt.out ?_
    go_wp2_with fail
    refine ret_below (awake8 _ HB.out) ?_
    intro w1 hb1
    go_wp2_with fail
    go_ret
    exact RetB.bool rfl hb1
end Go.Proofs.YtlhipgejiacklaaDoor
namespace Go.Proofs.YtlhipgejiacklaaDoor
open Go.RowKit

theorem cell_block_lt {w : World} {a : Addr} {v : Value} (h : w.cell? a = some v) : a.block < w.heap.size := by
  rcases Nat.lt_or_ge a.block w.heap.size with hlt | hge
  · exact hlt
  · unfold World.cell? at h; simp [Array.getElem?_eq_none hge] at h
theorem open_row {W : World} {x : Addr} {len cap : Nat} {zs : List Int} (hl : len ≤ cap) (hm : cap ≤ maxLen) (hz : zs.length = cap) (hcell : ∀ i, i < zs.length → W.cell? (x.add i) = some (.int .i64 (zs.getD i 0)))
    (hb : ∀ n ∈ zs, -9223372036854775808 ≤ n ∧ n ≤ 9223372036854775807) :
    ∃ ys : List Int, ys.length = len ∧ ys.length ≤ maxLen ∧ IntsAt W (some x) ys ∧ ∀ n ∈ ys, -9223372036854775808 ≤ n ∧ n ≤ 9223372036854775807 := by
  refine ⟨zs.take len, by simp; omega, by simp; omega, fun k hk => ?_, fun n hn => hb n (List.mem_of_mem_take hn)⟩
  have hk' : k < len := by simpa using Nat.lt_of_lt_of_le hk (List.length_take_le _ _)
  have h0 := hcell 0 (by omega)
  have hk0 := hcell k (by omega)
  obtain ⟨b, off, spot⟩ := x
  have hs : spot = none := by simpa [Addr.add] using World.cell?_spot h0
  subst hs
  have hlt := cell_block_lt hk0
  refine ⟨b, off, rfl, ?_, ?_⟩
  · unfold Addr.add at hlt; split at hlt <;> exact hlt
  · have e : (⟨b, off, none⟩ : Addr).add k = ⟨b, off + k, none⟩ := by
      unfold Addr.add; split
      · rename_i h; subst h; rfl
      · rfl
    rw [← e, hk0, nth_eq hk]
    simp [List.getD_eq_getElem?_getD, show k < zs.length by omega]
end Go.Proofs.YtlhipgejiacklaaDoor
