/-
  Refresh: what the functions say of lists that all holders have; the sanity check.
  Refresh: sums of zeros; the order of sums.
  RefreshMixes: the walk.
  A slice of numbers that came in reads as a list.
  Conditions: those that each theorem names.
-/
import Derived.Test.YtlhipgejiacklaaDoorM7
set_option linter.unusedVariables false
set_option linter.unusedSimpArgs false
namespace Go.Proofs.YtlhipgejiacklaaDoor
open Go.RowKit

theorem Full.gd {p n h : Nat} {a : List Nat} {N : List ShN} (H : Full p n h a N) (hp : 1 ≤ p) (hm : a.length ≤ 2048) : gdB p h (shL N) = true := (gdB_yes (gd_back (H.made.good hp hm))).symm
theorem Full.short {p n h : Nat} {a : List Nat} {N : List ShN} (H : Full p n h a N) (hm : a.length ≤ 1048576) : Short (shL N) := H.made.short hm
theorem ap_full {p n h : Nat} {a b : List Nat} {N M : List ShN} (P : PlanN p n h) (H : Full p n h a N) (K : Full p n h b M) (hab : a.length = b.length) (hm : a.length ≤ 2048) :
    aE p h (shL N) (shL M) = 0 ∧ aT p h (shL N) (shL M) = plusT p N M := by
  have hl : M.length = N.length := K.len.trans H.len.symm
  have gM := K.made.good P.p1 (by omega)
  have hix : ∀ k, k < N.length → hasH M (hN N k) = true ∧ apI M (hN N k) = k := fun k hk => by
    have := apI_of gM (show k < M.length by omega)
    rw [K.ord k (by omega), ← H.ord k hk] at this; exact this
  have hok : apOk N M = true := by
    unfold apOk anyN
    rw [Bool.not_eq_true', List.any_eq_false]
    intro k hk
    simp [(hix k (List.mem_range.1 hk)).1]
  have hq : N.length = 0 ∨ (vN N 0).length = (vN M 0).length := by
    rcases Nat.eq_zero_or_pos N.length with h0 | h0
    · exact .inl h0
    · exact .inr (by rw [H.made.vlen h0, K.made.vlen (by omega), hab])
  have he : apE N M = 0 := by unfold apE; rw [if_pos hok, if_pos hq]
  have hE : aE p h (shL N) (shL M) = 0 := by unfold aE; rw [H.gd P.p1 hm, K.gd P.p1 (by omega), natL_shL, natL_shL]; exact he
  refine ⟨hE, ?_⟩
  unfold aT
  rw [if_pos hE, natL_shL, natL_shL]
  unfold apT plusT
  refine List.map_congr_left fun k hk => ?_
  rw [(hix k (List.mem_range.1 hk)).2]
theorem apply_full {P P' : Nat → Prop} {p n h : Nat} {a b : List Nat} {N M : List ShN} (PN : PlanN p n h) (H : Full p n h a N) (K : Full p n h b M) (hab : a.length = b.length) (hm : a.length ≤ 2048) (A B : Option Addr) (ca cb : Nat) (w : World) (hB : Bases w) (hA : ShP P w A ca (shL N)) (hM : ShP P' w B cb (shL M)) :
    Calls Tryd.prog 25 #[planV p n h, .slice A h ca, .slice B h cb] w (DealR (plusT p N M) h w) := by
  have := apply_any p n h A B ca cb h h (shL N) (shL M) w PN hB hA hM (H.short (by omega)) (K.short (by omega)) (by rw [shL_len, H.len]) (by rw [shL_len, K.len]) (by rw [shL_len, H.len]; have := PN.h7; omega) (by rw [shL_len, K.len]; have := PN.h7; omega)
  obtain ⟨e1, e2⟩ := ap_full PN H K hab hm
  rw [e1, e2] at this
  refine this.mono ?_
  rintro e w' ⟨A', c', rfl, h1, h2⟩
  exact ⟨A', c', by rw [shL_len, plusT_len, H.len], h1, h2⟩
theorem checks_full {P : Nat → Prop} {p n h : Nat} {b : List Nat} {M : List ShN} (PN : PlanN p n h) (K : Full p n h b M) (hm : b.length ≤ 2048) (B : Option Addr) (cb : Nat) (w : World) (hB : Bases w) (hM : ShP P w B cb (shL M)) :
    Calls Tryd.prog 23 #[planV p n h, .slice B h cb] w (RetB (.bool (b.all fun x => x == 0)) w) := by
  have := checks_any p n h B cb (shL M) w PN.pv hB hM (K.short (by omega)) (by rw [shL_len, K.len]; have := PN.h7; omega)
  obtain ⟨e1, e2⟩ := K.made.cm PN hm (by rw [K.len]; exact PN.nh)
  rw [← ckB_all (K.made.ft PN hm) (by rw [shL_len, K.len]) (ordB_yes (fun k hk => by rw [shL_len] at hk; rw [hS_shL hk, K.ord k hk]; push_cast; rfl)) e1, e2, shL_len, K.len] at this
  exact this
theorem refCombine_made {P : Nat → Prop} {p n h : Nat} {sec : List Nat} {N : List ShN} (H : Made p n h sec N) (PN : PlanN p n h) (A : Option Addr) (c k : Nat) (w : World) (hS : ShP P w A c (shL N)) (hm : sec.length ≤ 2048) (hl : N.length ≤ 1048576) (hk : k = N.length) (hn : n ≤ N.length) :
    Calls Tryd.prog 27 #[planV p n h, .slice A k c] w (ListErr sec 0 w) := by
  have h1 := H.cm PN hm hn
  have := refCombine_any p n h A c (shL N) w PN.pv hS (H.short (by omega)) (by rw [shL_len]; exact hl)
  rw [h1.1, h1.2, shL_len, ← hk] at this
  exact this
theorem refFits_made {P : Nat → Prop} {p n h : Nat} {sec : List Nat} {N : List ShN} (H : Made p n h sec N) (PN : PlanN p n h) (A : Option Addr) (c k : Nat) (w : World) (hS : ShP P w A c (shL N)) (hm : sec.length ≤ 2048) (hl : N.length ≤ 1048576) (hk : k = N.length) :
    Calls Tryd.prog 26 #[planV p n h, .slice A k c] w (RetB (.bool true) w) := by
  have h1 := H.ft PN hm
  have := refFits_any p n h A c (shL N) w PN.pv hS (H.short (by omega)) (by rw [shL_len]; exact hl)
  rw [h1, shL_len, ← hk] at this
  exact this
theorem plan_732 : PlanN 7 2 3 := PlanN.mk' prime_7 (by omega) (by omega) (by omega) (by omega) (by omega)
def zaN : List ShN := dealN 7 2 3 (List.replicate 1 0) [2]
def laN : List ShN := dealN 7 2 3 [3] [1]
theorem za_full : Full 7 2 3 (List.replicate 1 0) zaN := Full.deal plan_732 (by simp) (by simp)
theorem la_full : Full 7 2 3 [3] laN := Full.deal plan_732 (by simp) (by simp)
theorem lz_full : Full 7 2 3 [3] (plusT 7 laN zaN) := by
  have := la_full.plus plan_732 za_full (by simp)
  rw [show linN 7 [3] (List.replicate 1 0) 1 = [3] from by decide +kernel] at this
  exact this
set_option maxRecDepth 100000 in
set_option maxHeartbeats 4000000 in
theorem awake8 (w : World) (hB : Bases w) : Calls Tryd.prog 14 #[] w (RetB (.bool true) w) := by
  have HB := Lib.hid hB
  have HZ := Lib.hid (fun (W : World) (B : Option Addr) (h1 : Below w.heap.size w W) (h2 : NatsAt W B [2]) (h3 : SlOK B 1 [2]) => show Calls Tryd.prog 20 #[planV 7 2 3, .int .i64 1, .slice B 1 1] W (DealR zaN 3 W) from
    zero_made 7 2 3 1 1 plan_732 (by omega) B 1 [2] W (hB.below h1 hB.1) h2 h3 (by simp) (by simp) (by simp) (by simp))
  have HD := Lib.hid (fun (W : World) (A B : Option Addr) (h1 : NatsAt W A [3]) (h2 : NatsAt W B [1]) (h3 : SlOK B 1 [1]) => show Calls Tryd.prog 31 #[planV 7 2 3, .slice A 1 1, .slice B 1 1] W (DealR laN 3 W) from
    refDeal_made plan_732 h1 h2 h3 (by simp) (by simp) (by simp) (by simp) (by simp) (by simp) (by simp))
  have HAP := Lib.hid (fun (W : World) (h0 : Below w.heap.size w W) (A B : Option Addr) (ca cb : Nat) (P P' : Nat → Prop) (h1 : ShP P W A ca (shL laN)) (h2 : ShP P' W B cb (shL zaN)) => show Calls Tryd.prog 25 #[planV 7 2 3, .slice A 3 ca, .slice B 3 cb] W (DealR (plusT 7 laN zaN) 3 W) from
    apply_full plan_732 la_full za_full (by simp) (by simp) A B ca cb W (hB.below h0 hB.1) h1 h2)
  have HCO := Lib.hid (fun (W : World) (A : Option Addr) (ca : Nat) (P : Nat → Prop) (h1 : ShP P W A ca (shL (plusT 7 laN zaN))) => show Calls Tryd.prog 27 #[planV 7 2 3, .slice A 3 ca] W (ListErr [3] 0 W) from
    refCombine_made lz_full.made plan_732 A ca 3 W h1 (by simp) (by rw [lz_full.len]; omega) lz_full.len.symm (by rw [lz_full.len]; omega))
  have HCK := Lib.hid (fun (W : World) (h0 : Below w.heap.size w W) (B : Option Addr) (cb : Nat) (P : Nat → Prop) (h1 : ShP P W B cb (shL zaN)) => show Calls Tryd.prog 23 #[planV 7 2 3, .slice B 3 cb] W (RetB (.bool true) W) from by
    have := checks_full plan_732 za_full (by simp) B cb W (hB.below h0 hB.1) h1
    exact this)
  clear hB
  go_enter Tryd.func14, Tryd.ntmps14
  go_wp2_with fail
  refine gen_calls fun w1 hw1 => ?_
  have hpc1 : PlanCell w1 w.heap.size 7 2 3 := by rw [hw1]; exact (PlanCell.new _ _ _ rfl).alloc _
  have hnb : NatBlk w1 (w.heap.size + 1) [2] := by rw [hw1]; exact lit1_at _ _ _ (by simp)
  have hb1 : Below w.heap.size w w1 := by rw [hw1]; exact bl_alloc _ (below_alloc _ _)
  clear hw1
  refine (HZ.out _ _ hb1 hnb.nats (SlOK.own hnb (by unfold maxLen; simp))).mono ?_
  rintro e w2 ⟨ZA, zc, rfl, hZ, hb2⟩
  have hpc2 := hpc1.below hb2
  have hbw2 := below_trans hb1 hb2
  have hz2 := hbw2.size
  have p0 := hpc2.c0
  have p1 := hpc2.c1
  have p2 := hpc2.c2
  have HZZ := Lib.hid hZ
  clear hpc1 hnb hb1 hb2 hZ
  go_wp2_with fail
  refine gen_calls fun w3 hw3 => ?_
  have hb3 : Below w2.heap.size w2 w3 := by rw [hw3]; exact bl_alloc _ (below_alloc _ _)
  have hn3 : NatBlk w3 w2.heap.size [3] := by rw [hw3]; exact (lit1_nats w2 3).below (below_alloc _ _)
  have hn1 : NatBlk w3 (w2.heap.size + 1) [1] := by rw [hw3]; exact lit1_at _ _ _ (by simp)
  clear hw3
  refine (HD.out _ _ _ hn3.nats hn1.nats (SlOK.own hn1 (by unfold maxLen; simp))).mono ?_
  rintro e w4 ⟨LA, lc, rfl, hL, hb4⟩
  have hb24 := below_trans hb3 hb4
  have hpc4 := hpc2.below hb24
  have hbw4 := below_trans hbw2 hb24
  have q0 := hpc4.c0
  have q1 := hpc4.c1
  have q2 := hpc4.c2
  have HZ4 := Lib.hid (HZZ.out.below hb24)
  have HL4 := Lib.hid hL
  clear hpc2 hn3 hn1 hb3 hb4 hL p0 p1 p2 hb24
  go_wp2_with fail
  refine (HAP.out _ hbw4 _ _ _ _ _ _ HL4.out HZ4.out).mono ?_
  rintro e w5 ⟨MA, mc, rfl, hM, hb5⟩
  have hpc5 := hpc4.below hb5
  have hbw5 := below_trans hbw4 hb5
  have r0 := hpc5.c0
  have r1 := hpc5.c1
  have r2 := hpc5.c2
  have HZ5 := Lib.hid (HZ4.out.below hb5)
  have HM5 := Lib.hid hM
  clear hpc4 hb5 hM q0 q1 q2 HL4
  go_wp2_with fail
  refine (HCO.out _ _ _ _ HM5.out).mono ?_
  rintro e w6 ⟨XA, xc, rfl, hX, -, -, hb6⟩
  have hpc6 := hpc5.below hb6
  have hbw6 := below_trans hbw5 hb6
  have s0 := hpc6.c0
  have s1 := hpc6.c1
  have s2 := hpc6.c2
  have HZ6 := Lib.hid (HZ5.out.below hb6)
  obtain ⟨xb, xo, rfl, hxl, x0⟩ := hX 0 (by simp)
  simp [nthN] at x0
  clear hpc5 hb6 hX r0 r1 r2 HM5
  go_wp2_with fail
  refine ret_below (HCK.out _ hbw6 _ _ _ HZ6.out) fun w7 hb7 => ?_
  have x7 := (hb7.cell (p := ⟨xb, xo, none⟩) hxl).trans x0
  clear x0 s0 s1 s2
  go_wp2_with fail
  go_ret
  exact RetB.bool rfl (below_trans hbw6 hb7)
end Go.Proofs.YtlhipgejiacklaaDoor
namespace Go.Proofs.YtlhipgejiacklaaDoor
open Go.RowKit

theorem lin_zeros {p m : Nat} (hp : 1 ≤ p) : linN p (List.replicate m 0) (List.replicate m 0) 1 = List.replicate m 0 := by
  have := lin_zero (p := p) (a := List.replicate m 0) (fun x hx => by rw [(List.mem_replicate.1 hx).2]; omega)
  rw [List.length_replicate] at this; exact this
theorem Full.plus0 {p n h m : Nat} {N M : List ShN} (P : PlanN p n h) (H : Full p n h (List.replicate m 0) N) (K : Full p n h (List.replicate m 0) M) : Full p n h (List.replicate m 0) (plusT p N M) := by
  have := H.plus P K rfl
  rw [lin_zeros P.p1] at this; exact this
theorem Full.plusZ {p n h : Nat} {a : List Nat} {N M : List ShN} (P : PlanN p n h) (H : Full p n h a N) (K : Full p n h (List.replicate a.length 0) M) (ha : ∀ x ∈ a, x < p) : Full p n h a (plusT p N M) := by
  have := H.plus P K (by rw [List.length_replicate])
  rw [lin_zero ha] at this; exact this
/-- The sum of several lists of zeros. -/
def sumN (p : Nat) : List ShN → List (List ShN) → List ShN
  | N, [] => N
  | N, M :: r => sumN p (plusT p N M) r
theorem sum_zeros {p n h m : Nat} (P : PlanN p n h) (hm : m ≤ 2048) : ∀ (Ms : List (List ShN)) (N : List ShN), Full p n h (List.replicate m 0) N → (∀ M ∈ Ms, Full p n h (List.replicate m 0) M) →
    sumR p h (shL N) (Ms.map shL) = (shL (sumN p N Ms), 0) ∧ Full p n h (List.replicate m 0) (sumN p N Ms)
  | [], N, H, _ => ⟨rfl, H⟩
  | M :: r, N, H, K => by
    have hM := K M (by simp)
    obtain ⟨e1, e2⟩ := ap_full P H hM rfl (by rw [List.length_replicate]; exact hm)
    have ih := sum_zeros P hm r (plusT p N M) (H.plus0 P hM) (fun X hX => K X (by simp [hX]))
    simp only [List.map_cons, sumR, sumN]
    rw [if_pos e1, e2]
    exact ih
theorem su_zeros {p n h m : Nat} (P : PlanN p n h) (hm : m ≤ 2048) (N : List ShN) (Ms : List (List ShN)) (H : Full p n h (List.replicate m 0) N) (K : ∀ M ∈ Ms, Full p n h (List.replicate m 0) M) :
    suE p h ((N :: Ms).map shL) = 0 ∧ suL p h ((N :: Ms).map shL) = shL (sumN p N Ms) ∧ Full p n h (List.replicate m 0) (sumN p N Ms) := by
  obtain ⟨e1, e2⟩ := sum_zeros P hm Ms N H K
  have hg : gdB p h (lsAt ((N :: Ms).map shL) 0) = true := H.gd P.p1 (by rw [List.length_replicate]; exact hm)
  refine ⟨?_, ?_, e2⟩
  · unfold suE; rw [if_neg (by simp), if_pos hg]
    show (sumR p h (shL N) (Ms.map shL)).2 = 0
    rw [e1]
  · unfold suL; rw [if_neg (by simp), if_pos hg]
    show (sumR p h (shL N) (Ms.map shL)).1 = _
    rw [e1]
theorem sum_full {P : Nat → Prop} {p n h m : Nat} (PN : PlanN p n h) (hm : m ≤ 2048) (N : List ShN) (Ms : List (List ShN)) (H : Full p n h (List.replicate m 0) N) (K : ∀ M ∈ Ms, Full p n h (List.replicate m 0) M) (A : Option Addr) (c kL : Nat) (w : World) (hB : Bases w)
    (hA : ListsP P w A c ((N :: Ms).map shL)) (hk : kL = Ms.length + 1) (hl : Ms.length ≤ 1000) :
    Calls Tryd.prog 24 #[planV p n h, .slice A kL c] w (DealR (sumN p N Ms) h w) := by
  obtain ⟨e1, e2, e3⟩ := su_zeros PN hm N Ms H K
  have hsh : ShortLs ((N :: Ms).map shL) := fun k hk => by
    have hk' : k < (N :: Ms).length := by simpa using hk
    have hF : Full p n h (List.replicate m 0) ((N :: Ms)[k]) := by
      have := List.getElem_mem hk'
      rcases List.mem_cons.1 this with h0 | h0
      · rw [h0]; exact H
      · exact K _ h0
    have : lsAt ((N :: Ms).map shL) k = shL ((N :: Ms)[k]) := by
      unfold lsAt
      rw [List.getD_eq_getElem?_getD, List.getElem?_map, List.getElem?_eq_getElem hk']; rfl
    rw [this]
    exact ⟨hF.short (by rw [List.length_replicate]; omega), by rw [shL_len, hF.len]; have := PN.h7; omega⟩
  have := sum_any p n h A c kL ((N :: Ms).map shL) w PN hB hA hsh (by simp [hk]) (by simp; omega)
  rw [e1, e2] at this
  refine this.mono ?_
  rintro e w' ⟨A', c', rfl, h1, h2⟩
  exact ⟨A', c', by rw [shL_len, e3.len], h1, h2⟩
/-- Two lists in a literal. -/
theorem lists_two {P : Nat → Prop} {w : World} {g h : Nat} {A B : Option Addr} {ca cb : Nat} {N M : List ShN} (hg : w.heap[g]? = some (.cells #[.slice A h ca, .slice B h cb] 31 (0, 0))) (hP : P g) (hA : ShP P w A ca (shL N)) (hB : ShP P w B cb (shL M)) (hN : N.length = h) (hM : M.length = h) :
    ListsP P w (some ⟨g, 0, none⟩) 2 (([N, M]).map shL) := by
  refine ⟨fun k hk => ?_, ⟨Nat.le_refl _, by unfold maxLen; omega, (fun e => by cases e), .inr (fun a e => by injection e with e; subst e; rfl)⟩⟩
  have hk : k = 0 ∨ k = 1 := by simp at hk; omega
  rcases hk with rfl | rfl
  · exact ⟨g, 0, A, ca, rfl, blk_lt hg, hP, by rw [cell_of_row w g _ _ _ (0, 0) hg]; show some _ = some (Value.slice A (shL N).length ca); rw [shL_len, hN]; rfl, hA⟩
  · exact ⟨g, 0, B, cb, rfl, blk_lt hg, hP, by rw [cell_of_row w g _ _ _ (0, 0) hg]; show some _ = some (Value.slice B (shL M).length cb); rw [shL_len, hM]; rfl, hB⟩
theorem fadd_swap (p l a b : Nat) : fadd p l (fmul p 1 (fadd p a (fmul p 1 b))) = fadd p (fadd p l (fmul p 1 b)) (fmul p 1 a) := by
  unfold fadd fmul
  simp only [Nat.one_mul, Nat.add_mod_mod, Nat.mod_add_mod, Nat.mod_mod]
  congr 1; omega
theorem lin_swap {p : Nat} {L A B : List Nat} (h1 : A.length = L.length) (h2 : B.length = L.length) : linN p L (linN p A B 1) 1 = linN p (linN p L B 1) A 1 := by
  refine extN (by simp only [linN_len]; omega) fun i hi => ?_
  have hi' : i < L.length := by simp only [linN_len] at hi; omega
  rw [linN_nth (by simp only [linN_len]; omega), linN_nth (by omega), linN_nth (by simp only [linN_len]; omega), linN_nth (by omega)]
  exact fadd_swap _ _ _ _
theorem plus_swap {p n h : Nat} {s a b : List Nat} {N Z Y : List ShN} (H : Full p n h s N) (K : Full p n h a Z) (J : Full p n h b Y) (h1 : a.length = s.length) (h2 : b.length = s.length) : plusT p N (plusT p Z Y) = plusT p (plusT p N Y) Z := by
  refine shl_ext (by rw [plusT_len, plusT_len, plusT_len]) fun k hk => ?_
  rw [plusT_len] at hk
  have hkZ : k < Z.length := by rw [K.len, ← H.len]; exact hk
  have hkY : k < Y.length := by rw [J.len, ← H.len]; exact hk
  rw [(plusT_at hk).1, (plusT_at hk).2, (plusT_at (show k < (plusT p N Y).length by rw [plusT_len]; exact hk)).1, (plusT_at (show k < (plusT p N Y).length by rw [plusT_len]; exact hk)).2, (plusT_at hk).1, (plusT_at hk).2, (plusT_at hkZ).2]
  exact ⟨rfl, lin_swap (by rw [K.made.vlen hkZ, H.made.vlen hk, h1]) (by rw [J.made.vlen hkY, H.made.vlen hk, h2])⟩
end Go.Proofs.YtlhipgejiacklaaDoor
namespace Go.Proofs.YtlhipgejiacklaaDoor
open Go.RowKit

attribute [local go_sem high] sliced_low
set_option maxRecDepth 100000 in
set_option maxHeartbeats 8000000 in
theorem refreshMixes_walk (A0 : Option Addr) (L0 : List Int) (c0 : Nat) (w : World) (hB : Bases w) (hl0 : L0.length ≤ maxLen) (hI0 : IntsAt w A0 L0) (_ : ∀ n ∈ L0, -9223372036854775808 ≤ n ∧ n ≤ 9223372036854775807) :
    Calls Tryd.prog 5 #[.slice A0 L0.length c0] w (RetB (.bool true) w) := by
  have HB := Lib.hid hB
  clear hB
  by_cases hlight : (L0.length : Int) ≤ 500
  · have hL := light_any A0 L0.length c0 w
    rw [decide_eq_true hlight] at hL
    have HLt := Lib.hid hL
    clear hL hlight
    go_enter Tryd.func5, Tryd.ntmps5
    go_wp2_with fail
    refine ret_pure HLt.out ?_
    clear HLt
    go_wp2_with fail
    refine (roll_any A0 L0 c0 _ hl0 hI0).mono ?_
    rintro e w1 ⟨D, rfl, hDs, hD, hb1⟩
    have hE1 : Env w w1 D L0 := ⟨hD, hDs, hb1⟩
    clear hI0 hD hb1
    go_wp2_with fail
    refine (prime_any D L0 _ hE1.dice).mono ?_
    rintro e w2 ⟨p, rfl, hpp, hp5, -, hD2, hg2⟩
    have hE2 := hE1.next hD2 hg2
    have h2 := hpp.1
    have h1 : 1 ≤ p := by omega
    have hp2 : p ≤ 2147483648 := by omega
    have HPP := Lib.hid hpp
    clear hg2 hD2 hE1 hpp
    go_wp2_with fail
    refine (plan_any D _ p _ hE2.dice h2 hp2).mono ?_
    rintro e w3 ⟨n, h, R3, rfl, ⟨hn1, hnh, hh7, hhp⟩, hD3, hg3⟩
    have hE3 := hE2.next hD3 hg3
    have HPN := Lib.hid (PlanN.mk' HPP.out (by omega) hn1 hnh hh7 hhp)
    clear hD3 hg3 hE2 HPP
    go_wp2_with fail
    refine gen_calls fun w4 hw4 => ?_
    have HP : Hid (PlanCell w4 w3.heap.size p n h) := Lib.hid (by rw [hw4]; exact PlanCell.new _ _ _ rfl)
    have hE : Env w w4 D R3 := hE3.mv (by rw [hw4]; exact below_alloc _ _)
    have hxD : w3.heap.size ≠ D := by have := hE3.lt; omega
    have hlx := HP.out.lt
    have p0 := HP.out.c0
    have p1 := HP.out.c1
    have p2 := HP.out.c2
    generalize w3.heap.size = px at *
    clear hw4 hE3
    refine (dealt_any D _ p n h 2 _ hE.dice HPN.out (by omega) (by omega)).mono ?_
    rintro e w5 ⟨SA, sc, sec, LA, lc, ran, R5, rfl, hDN, hS, hL, hD5, hg5⟩
    replace hE := hE.next hD5 hg5; replace HP := Lib.hid (HP.out.mv hg5 hxD); replace p0 := HP.out.c0; replace p1 := HP.out.c1; replace p2 := HP.out.c2
    have HS := Lib.hid hS
    have HL := Lib.hid hL
    have HDN := Lib.hid hDN
    have hq1 : 1 ≤ sec.length := hDN.lo
    have hq2 : sec.length ≤ 2 := hDN.hi
    have HF := Lib.hid (Full.deal HPN.out hDN.sp hDN.rp)
    obtain ⟨N, hN⟩ : ∃ N, N = dealN p n h sec ran := ⟨_, rfl⟩
    rw [← hN] at HL HF
    clear hDN hS hL hD5 hg5 hN
    go_wp2_with fail
    refine (elements_any D _ p sec.length _ hE.dice h1 hp2 (by omega)).mono ?_
    intro e w6 he
    obtain ⟨MA, mc, more, R6, rfl, hml, hmp, hM, hD6, hg6⟩ := elems_held hE.lt he
    replace hE := hE.next hD6 hg6; replace HP := Lib.hid (HP.out.mv hg6 hxD); replace p0 := HP.out.c0; replace p1 := HP.out.c1; replace p2 := HP.out.c2; replace HS := Lib.hid (HS.out.mv hg6); replace HL := Lib.hid (HL.out.mv hg6)
    have HM := Lib.hid hM
    have HMP := Lib.hid hmp
    have HML := Lib.hid hml
    have hm2 : more.length ≤ 2 := by omega
    clear he hM hmp hml hD6 hg6
    go_wp2_with fail
    obtain ⟨rl, hrl⟩ : ∃ rl, rl = sec.length * (n - 1) := ⟨_, rfl⟩
    have hrl2 : rl ≤ 1048576 := by rw [hrl]; have := Nat.mul_le_mul hq2 (show n - 1 ≤ 7 by omega); omega
    have HRN := Lib.hid (fun (W : World) => refRandom_nat p n h sec.length rl W hrl hn1 (by omega) (by omega))
    have HRL := Lib.hid hrl
    clear hrl
    go_region_held3 (fun w' => w'.cell? ⟨px, 0, none⟩ = some (.int .i64 (p : Int)) ∧ w'.cell? ⟨px, 1, none⟩ = some (.int .i64 (n : Int)) ∧ w'.cell? ⟨px, 2, none⟩ = some (.int .i64 (h : Int))) (first | go_keep)
      (first
        | (go_at_call 22; refine ret_below (HRN.out _) ?_; intro waa hb; have hbaa : Below w6.heap.size w6 waa := (below_undrew1 hb); replace hE := hE.mv hbaa; replace HP := Lib.hid (HP.out.below hbaa); replace p0 := HP.out.c0; replace p1 := HP.out.c1; replace p2 := HP.out.c2; replace HS := Lib.hid (HS.out.below hbaa); replace HL := Lib.hid (HL.out.below hbaa); replace HM := Lib.hid (HM.out.below hbaa))
        | (go_at_call 21; refine (elements_any D _ p rl _ hE.dice h1 hp2 hrl2).mono ?_; intro e wba he; obtain ⟨RAa, rca, raa, RRa, rfl, hrnla, hrpa, hRa, hDba, hgba⟩ := elems_held hE.lt he; have HRNLa := Lib.hid hrnla; clear hrnla; replace hE := hE.next hDba hgba; replace HP := Lib.hid (HP.out.mv hgba hxD); replace p0 := HP.out.c0; replace p1 := HP.out.c1; replace p2 := HP.out.c2; replace HS := Lib.hid (HS.out.mv hgba); replace HL := Lib.hid (HL.out.mv hgba); replace HM := Lib.hid (HM.out.mv hgba))
        | (go_at_call 31; refine (refDeal_made HPN.out HM.out.nats hRa.nats hRa.ok (by omega) HMP.out hrpa (by rw [HML.out]; exact HRNLa.out.trans HRL.out) (by have := HRNLa.out; omega) rfl rfl).mono ?_; rintro e w9 ⟨ZA, zc, rfl, hZ, hb9⟩; have HZ := Lib.hid (hZ.away hE.lt); replace hE := hE.mv hb9; replace HP := Lib.hid (HP.out.below hb9); replace p0 := HP.out.c0; replace p1 := HP.out.c1; replace p2 := HP.out.c2; replace HS := Lib.hid (HS.out.below hb9); replace HL := Lib.hid (HL.out.below hb9); replace HM := Lib.hid (HM.out.below hb9)))
    have HFZ := Lib.hid (Full.deal HPN.out HMP.out hrpa)
    obtain ⟨Z, hz⟩ : ∃ Z, Z = dealN p n h more raa := ⟨_, rfl⟩
    rw [← hz] at HZ HFZ
    clear he hRa hrpa hDba hgba hbaa hb9 hZ hz HRNLa hb
    go_wp2_with fail
    refine (apply_full HPN.out HF.out HFZ.out HML.out.symm (by omega) LA ZA lc zc _ (hE.bases HB.out) HL.out HZ.out).mono ?_
    rintro e wx ⟨XA, xc, rfl, hX, hbx⟩
    have HX := Lib.hid (hX.away hE.lt)
    replace hE := hE.mv hbx; replace HP := Lib.hid (HP.out.below hbx); replace p0 := HP.out.c0; replace p1 := HP.out.c1; replace p2 := HP.out.c2; replace HS := Lib.hid (HS.out.below hbx); replace HL := Lib.hid (HL.out.below hbx); replace HM := Lib.hid (HM.out.below hbx); replace HZ := Lib.hid (HZ.out.below hbx)
    clear hX hbx
    have HFX := Lib.hid (HF.out.plus HPN.out HFZ.out HML.out.symm)
    have hll : (linN p sec more 1).length ≤ 2 := by rw [linN_len]; omega
    go_wp2_with fail
    refine (refCombine_made HFX.out.made HPN.out XA xc h _ HX.out (by omega) (by rw [HFX.out.len]; omega) HFX.out.len.symm (by rw [HFX.out.len]; exact hnh)).mono ?_
    intro e wy he
    obtain ⟨YA, yc, rfl, hY, hby⟩ := he.held hE.lt
    replace hE := hE.mv hby; replace HP := Lib.hid (HP.out.below hby); replace p0 := HP.out.c0; replace p1 := HP.out.c1; replace p2 := HP.out.c2; replace HS := Lib.hid (HS.out.below hby); replace HL := Lib.hid (HL.out.below hby); replace HM := Lib.hid (HM.out.below hby); replace HZ := Lib.hid (HZ.out.below hby); replace HX := Lib.hid (HX.out.below hby)
    have HY := Lib.hid hY
    clear he hY hby
    go_wp2_with fail
    have HM9 := Lib.hid HM.out.nats
    go_loopw [14, 68] (fun b i wr => ∃ j : Nat, j ≤ more.length ∧ i = .int .i64 j ∧ b = .bool ((more.take j).all fun x => x == 0) ∧ wr = wy) (fun _ i _ => more.length - (intOf i).toNat)
    case atStart => exact ⟨0, Nat.zero_le _, rfl, rfl, rfl⟩
    case round =>
      obtain ⟨j, hj, rfl, rfl, hww⟩ := hrel
      subst hww
      by_cases hlt : j < more.length
      · obtain ⟨b, off, rfl, hbl, x0⟩ := HM9.out j hlt
        have HTK := Lib.hid (show ((more.take (j + 1)).all fun x => x == 0) = (((more.take j).all fun x => x == 0) && (nthN more j == 0)) from by
          rw [List.take_succ_eq_append_getElem hlt, List.all_append, nthN_eq hlt]; simp)
        generalize ((more.take j).all fun x => x == 0) = zb at *
        have hnn : ((nthN more j : Nat) : Int) = 0 ∨ ¬ ((nthN more j : Nat) : Int) = 0 := by omega
        generalize nthN more j = x at *
        cases zb with
        | false =>
          go_wp2_with fail
          go_roundw
          case rel => exact ⟨j + 1, by omega, by go_num, by rw [HTK.out]; rfl, trivial⟩
          case measure => simp [intOf]; omega
        | true =>
          by_cases hx0 : x = 0
          · subst hx0
            go_wp2_with fail
            go_roundw
            case rel => exact ⟨j + 1, by omega, by go_num, by rw [HTK.out]; rfl, trivial⟩
            case measure => simp [intOf]; omega
          · have t1 : ((x : Int) == 0) = false := by simp; omega
            have HX0 := Lib.hid (show (x == 0) = false by simp [hx0])
            clear hx0 hnn
            go_wp2_with fail
            go_roundw
            case rel => exact ⟨j + 1, by omega, by go_num, by rw [HTK.out, HX0.out]; rfl, trivial⟩
            case measure => simp [intOf]; omega
      · obtain rfl : j = more.length := by omega
        rw [List.take_length]
        have HCK := Lib.hid (checks_full HPN.out HFZ.out (by omega) ZA zc wr (hE.bases HB.out) HZ.out)
        generalize (more.all fun x => x == 0) = zb at *
        have tz : (zb == zb) = true := by simp
        go_wp2_with fail
        refine ret_below HCK.out ?_
        intro wz hbz
        replace hE := hE.mv hbz; replace HP := Lib.hid (HP.out.below hbz); replace p0 := HP.out.c0; replace p1 := HP.out.c1; replace p2 := HP.out.c2; replace HS := Lib.hid (HS.out.below hbz); replace HL := Lib.hid (HL.out.below hbz); replace HM := Lib.hid (HM.out.below hbz); replace HZ := Lib.hid (HZ.out.below hbz); replace HX := Lib.hid (HX.out.below hbz); replace HY := Lib.hid (HY.out.below hbz)
        go_wp2_with fail
        refine (refLinear_any p SA MA sec more sc mc 1 _ h1 hp2 HS.out.nats HM.out.nats HDN.out.sp HMP.out (by omega) (by omega) (by omega)).mono ?_
        intro e wv he
        obtain ⟨VA, vc, rfl, hV, -, -, hbv⟩ := he.open_
        replace hE := hE.mv hbv; replace HP := Lib.hid (HP.out.below hbv); replace p0 := HP.out.c0; replace p1 := HP.out.c1; replace p2 := HP.out.c2; replace HS := Lib.hid (HS.out.below hbv); replace HL := Lib.hid (HL.out.below hbv); replace HM := Lib.hid (HM.out.below hbv); replace HZ := Lib.hid (HZ.out.below hbv); replace HX := Lib.hid (HX.out.below hbv); replace HY := Lib.hid (HY.out.below hbv)
        have HV := Lib.hid hV
        clear he hV hbv
        go_wp2_with fail
        refine (same_at YA VA (linN p sec more 1) _ _ yc vc _ HY.out.nats HV.out (by omega) rfl rfl).mono ?_
        rintro e wx2 ⟨rfl, rfl⟩
        go_wp2_with fail
        refine ret_below (awake8 _ (hE.bases HB.out)) ?_
        intro wz2 hbz2
        go_wp2_with fail
        go_ret
        exact RetB.bool rfl (hE.mv hbz2).below
  · have hL := light_any A0 L0.length c0 w
    rw [decide_eq_false hlight] at hL
    have HLt := Lib.hid hL
    clear hL
    go_enter Tryd.func5, Tryd.ntmps5
    go_wp2_with fail
    refine ret_pure HLt.out ?_
    go_wp2_with fail
    refine ret_below (awake8 _ HB.out) ?_
    intro w1 hb1
    go_wp2_with fail
    go_ret
    exact RetB.bool rfl hb1
end Go.Proofs.YtlhipgejiacklaaDoor
namespace Go.Proofs.YtlhipgejiacklaaDoor
open Go.RowKit

theorem cell_block_lt {w : World} {a : Addr} {v : Value} (h : w.cell? a = some v) : a.block < w.heap.size := by
  rcases Nat.lt_or_ge a.block w.heap.size with hlt | hge
  · exact hlt
  · unfold World.cell? at h; simp [Array.getElem?_eq_none hge] at h
theorem open_row {W : World} {x : Addr} {len cap : Nat} {zs : List Int} (hl : len ≤ cap) (hm : cap ≤ maxLen) (hz : zs.length = cap) (hcell : ∀ i, i < zs.length → W.cell? (x.add i) = some (.int .i64 (zs.getD i 0)))
    (hb : ∀ n ∈ zs, -9223372036854775808 ≤ n ∧ n ≤ 9223372036854775807) :
    ∃ ys : List Int, ys.length = len ∧ ys.length ≤ maxLen ∧ IntsAt W (some x) ys ∧ ∀ n ∈ ys, -9223372036854775808 ≤ n ∧ n ≤ 9223372036854775807 := by
  refine ⟨zs.take len, by simp; omega, by simp; omega, fun k hk => ?_, fun n hn => hb n (List.mem_of_mem_take hn)⟩
  have hk' : k < len := by simpa using Nat.lt_of_lt_of_le hk (List.length_take_le _ _)
  have h0 := hcell 0 (by omega)
  have hk0 := hcell k (by omega)
  obtain ⟨b, off, spot⟩ := x
  have hs : spot = none := by simpa [Addr.add] using World.cell?_spot h0
  subst hs
  have hlt := cell_block_lt hk0
  refine ⟨b, off, rfl, ?_, ?_⟩
  · unfold Addr.add at hlt; split at hlt <;> exact hlt
  · have e : (⟨b, off, none⟩ : Addr).add k = ⟨b, off + k, none⟩ := by
      unfold Addr.add; split
      · rename_i h; subst h; rfl
      · rfl
    rw [← e, hk0, nth_eq hk]
    simp [List.getD_eq_getElem?_getD, show k < zs.length by omega]
end Go.Proofs.YtlhipgejiacklaaDoor
