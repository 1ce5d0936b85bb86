/-
  Refresh: what the functions say of lists that all holders have; the sanity check.
  Refresh: sums of zeros; the order of sums.
  Lists of lists under way.
  RefreshKeeps: the walk.
  A slice of numbers that came in reads as a list.
  Conditions: those that each theorem names.
-/
import Derived.Test.YtlhipgejiacklaaDoorM7
set_option linter.unusedVariables false
set_option linter.unusedSimpArgs false
namespace Go.Proofs.YtlhipgejiacklaaDoor
open Go.RowKit

theorem Full.gd {p n h : Nat} {a : List Nat} {N : List ShN} (H : Full p n h a N) (hp : 1 ≤ p) (hm : a.length ≤ 2048) : gdB p h (shL N) = true := (gdB_yes (gd_back (H.made.good hp hm))).symm
theorem Full.short {p n h : Nat} {a : List Nat} {N : List ShN} (H : Full p n h a N) (hm : a.length ≤ 1048576) : Short (shL N) := H.made.short hm
theorem ap_full {p n h : Nat} {a b : List Nat} {N M : List ShN} (P : PlanN p n h) (H : Full p n h a N) (K : Full p n h b M) (hab : a.length = b.length) (hm : a.length ≤ 2048) :
    aE p h (shL N) (shL M) = 0 ∧ aT p h (shL N) (shL M) = plusT p N M := by
  have hl : M.length = N.length := K.len.trans H.len.symm
  have gM := K.made.good P.p1 (by omega)
  have hix : ∀ k, k < N.length → hasH M (hN N k) = true ∧ apI M (hN N k) = k := fun k hk => by
    have := apI_of gM (show k < M.length by omega)
    rw [K.ord k (by omega), ← H.ord k hk] at this; exact this
  have hok : apOk N M = true := by
    unfold apOk anyN
    rw [Bool.not_eq_true', List.any_eq_false]
    intro k hk
    simp [(hix k (List.mem_range.1 hk)).1]
  have hq : N.length = 0 ∨ (vN N 0).length = (vN M 0).length := by
    rcases Nat.eq_zero_or_pos N.length with h0 | h0
    · exact .inl h0
    · exact .inr (by rw [H.made.vlen h0, K.made.vlen (by omega), hab])
  have he : apE N M = 0 := by unfold apE; rw [if_pos hok, if_pos hq]
  have hE : aE p h (shL N) (shL M) = 0 := by unfold aE; rw [H.gd P.p1 hm, K.gd P.p1 (by omega), natL_shL, natL_shL]; exact he
  refine ⟨hE, ?_⟩
  unfold aT
  rw [if_pos hE, natL_shL, natL_shL]
  unfold apT plusT
  refine List.map_congr_left fun k hk => ?_
  rw [(hix k (List.mem_range.1 hk)).2]
theorem apply_full {P P' : Nat → Prop} {p n h : Nat} {a b : List Nat} {N M : List ShN} (PN : PlanN p n h) (H : Full p n h a N) (K : Full p n h b M) (hab : a.length = b.length) (hm : a.length ≤ 2048) (A B : Option Addr) (ca cb : Nat) (w : World) (hB : Bases w) (hA : ShP P w A ca (shL N)) (hM : ShP P' w B cb (shL M)) :
    Calls Tryd.prog 25 #[planV p n h, .slice A h ca, .slice B h cb] w (DealR (plusT p N M) h w) := by
  have := apply_any p n h A B ca cb h h (shL N) (shL M) w PN hB hA hM (H.short (by omega)) (K.short (by omega)) (by rw [shL_len, H.len]) (by rw [shL_len, K.len]) (by rw [shL_len, H.len]; have := PN.h7; omega) (by rw [shL_len, K.len]; have := PN.h7; omega)
  obtain ⟨e1, e2⟩ := ap_full PN H K hab hm
  rw [e1, e2] at this
  refine this.mono ?_
  rintro e w' ⟨A', c', rfl, h1, h2⟩
  exact ⟨A', c', by rw [shL_len, plusT_len, H.len], h1, h2⟩
theorem checks_full {P : Nat → Prop} {p n h : Nat} {b : List Nat} {M : List ShN} (PN : PlanN p n h) (K : Full p n h b M) (hm : b.length ≤ 2048) (B : Option Addr) (cb : Nat) (w : World) (hB : Bases w) (hM : ShP P w B cb (shL M)) :
    Calls Tryd.prog 23 #[planV p n h, .slice B h cb] w (RetB (.bool (b.all fun x => x == 0)) w) := by
  have := checks_any p n h B cb (shL M) w PN.pv hB hM (K.short (by omega)) (by rw [shL_len, K.len]; have := PN.h7; omega)
  obtain ⟨e1, e2⟩ := K.made.cm PN hm (by rw [K.len]; exact PN.nh)
  rw [← ckB_all (K.made.ft PN hm) (by rw [shL_len, K.len]) (ordB_yes (fun k hk => by rw [shL_len] at hk; rw [hS_shL hk, K.ord k hk]; push_cast; rfl)) e1, e2, shL_len, K.len] at this
  exact this
theorem refCombine_made {P : Nat → Prop} {p n h : Nat} {sec : List Nat} {N : List ShN} (H : Made p n h sec N) (PN : PlanN p n h) (A : Option Addr) (c k : Nat) (w : World) (hS : ShP P w A c (shL N)) (hm : sec.length ≤ 2048) (hl : N.length ≤ 1048576) (hk : k = N.length) (hn : n ≤ N.length) :
    Calls Tryd.prog 27 #[planV p n h, .slice A k c] w (ListErr sec 0 w) := by
  have h1 := H.cm PN hm hn
  have := refCombine_any p n h A c (shL N) w PN.pv hS (H.short (by omega)) (by rw [shL_len]; exact hl)
  rw [h1.1, h1.2, shL_len, ← hk] at this
  exact this
theorem refFits_made {P : Nat → Prop} {p n h : Nat} {sec : List Nat} {N : List ShN} (H : Made p n h sec N) (PN : PlanN p n h) (A : Option Addr) (c k : Nat) (w : World) (hS : ShP P w A c (shL N)) (hm : sec.length ≤ 2048) (hl : N.length ≤ 1048576) (hk : k = N.length) :
    Calls Tryd.prog 26 #[planV p n h, .slice A k c] w (RetB (.bool true) w) := by
  have h1 := H.ft PN hm
  have := refFits_any p n h A c (shL N) w PN.pv hS (H.short (by omega)) (by rw [shL_len]; exact hl)
  rw [h1, shL_len, ← hk] at this
  exact this
theorem plan_732 : PlanN 7 2 3 := PlanN.mk' prime_7 (by omega) (by omega) (by omega) (by omega) (by omega)
def zaN : List ShN := dealN 7 2 3 (List.replicate 1 0) [2]
def laN : List ShN := dealN 7 2 3 [3] [1]
theorem za_full : Full 7 2 3 (List.replicate 1 0) zaN := Full.deal plan_732 (by simp) (by simp)
theorem la_full : Full 7 2 3 [3] laN := Full.deal plan_732 (by simp) (by simp)
theorem lz_full : Full 7 2 3 [3] (plusT 7 laN zaN) := by
  have := la_full.plus plan_732 za_full (by simp)
  rw [show linN 7 [3] (List.replicate 1 0) 1 = [3] from by decide +kernel] at this
  exact this
set_option maxRecDepth 100000 in
set_option maxHeartbeats 4000000 in
theorem awake8 (w : World) (hB : Bases w) : Calls Tryd.prog 14 #[] w (RetB (.bool true) w) := by
  have HB := Lib.hid hB
  have HZ := Lib.hid (fun (W : World) (B : Option Addr) (h1 : Below w.heap.size w W) (h2 : NatsAt W B [2]) (h3 : SlOK B 1 [2]) => show Calls Tryd.prog 20 #[planV 7 2 3, .int .i64 1, .slice B 1 1] W (DealR zaN 3 W) from
    zero_made 7 2 3 1 1 plan_732 (by omega) B 1 [2] W (hB.below h1 hB.1) h2 h3 (by simp) (by simp) (by simp) (by simp))
  have HD := Lib.hid (fun (W : World) (A B : Option Addr) (h1 : NatsAt W A [3]) (h2 : NatsAt W B [1]) (h3 : SlOK B 1 [1]) => show Calls Tryd.prog 31 #[planV 7 2 3, .slice A 1 1, .slice B 1 1] W (DealR laN 3 W) from
    refDeal_made plan_732 h1 h2 h3 (by simp) (by simp) (by simp) (by simp) (by simp) (by simp) (by simp))
  have HAP := Lib.hid (fun (W : World) (h0 : Below w.heap.size w W) (A B : Option Addr) (ca cb : Nat) (P P' : Nat → Prop) (h1 : ShP P W A ca (shL laN)) (h2 : ShP P' W B cb (shL zaN)) => show Calls Tryd.prog 25 #[planV 7 2 3, .slice A 3 ca, .slice B 3 cb] W (DealR (plusT 7 laN zaN) 3 W) from
    apply_full plan_732 la_full za_full (by simp) (by simp) A B ca cb W (hB.below h0 hB.1) h1 h2)
  have HCO := Lib.hid (fun (W : World) (A : Option Addr) (ca : Nat) (P : Nat → Prop) (h1 : ShP P W A ca (shL (plusT 7 laN zaN))) => show Calls Tryd.prog 27 #[planV 7 2 3, .slice A 3 ca] W (ListErr [3] 0 W) from
    refCombine_made lz_full.made plan_732 A ca 3 W h1 (by simp) (by rw [lz_full.len]; omega) lz_full.len.symm (by rw [lz_full.len]; omega))
  have HCK := Lib.hid (fun (W : World) (h0 : Below w.heap.size w W) (B : Option Addr) (cb : Nat) (P : Nat → Prop) (h1 : ShP P W B cb (shL zaN)) => show Calls Tryd.prog 23 #[planV 7 2 3, .slice B 3 cb] W (RetB (.bool true) W) from by
    have := checks_full plan_732 za_full (by simp) B cb W (hB.below h0 hB.1) h1
    exact this)
  clear hB
  go_enter Tryd.func14, Tryd.ntmps14
  go_wp2_with fail
  refine gen_calls fun w1 hw1 => ?_
  have hpc1 : PlanCell w1 w.heap.size 7 2 3 := by rw [hw1]; exact (PlanCell.new _ _ _ rfl).alloc _
  have hnb : NatBlk w1 (w.heap.size + 1) [2] := by rw [hw1]; exact lit1_at _ _ _ (by simp)
  have hb1 : Below w.heap.size w w1 := by rw [hw1]; exact bl_alloc _ (below_alloc _ _)
  clear hw1
  refine (HZ.out _ _ hb1 hnb.nats (SlOK.own hnb (by unfold maxLen; simp))).mono ?_
  rintro e w2 ⟨ZA, zc, rfl, hZ, hb2⟩
  have hpc2 := hpc1.below hb2
  have hbw2 := below_trans hb1 hb2
  have hz2 := hbw2.size
  have p0 := hpc2.c0
  have p1 := hpc2.c1
  have p2 := hpc2.c2
  have HZZ := Lib.hid hZ
  clear hpc1 hnb hb1 hb2 hZ
  go_wp2_with fail
  refine gen_calls fun w3 hw3 => ?_
  have hb3 : Below w2.heap.size w2 w3 := by rw [hw3]; exact bl_alloc _ (below_alloc _ _)
  have hn3 : NatBlk w3 w2.heap.size [3] := by rw [hw3]; exact (lit1_nats w2 3).below (below_alloc _ _)
  have hn1 : NatBlk w3 (w2.heap.size + 1) [1] := by rw [hw3]; exact lit1_at _ _ _ (by simp)
  clear hw3
  refine (HD.out _ _ _ hn3.nats hn1.nats (SlOK.own hn1 (by unfold maxLen; simp))).mono ?_
  rintro e w4 ⟨LA, lc, rfl, hL, hb4⟩
  have hb24 := below_trans hb3 hb4
  have hpc4 := hpc2.below hb24
  have hbw4 := below_trans hbw2 hb24
  have q0 := hpc4.c0
  have q1 := hpc4.c1
  have q2 := hpc4.c2
  have HZ4 := Lib.hid (HZZ.out.below hb24)
  have HL4 := Lib.hid hL
  clear hpc2 hn3 hn1 hb3 hb4 hL p0 p1 p2 hb24
  go_wp2_with fail
  refine (HAP.out _ hbw4 _ _ _ _ _ _ HL4.out HZ4.out).mono ?_
  rintro e w5 ⟨MA, mc, rfl, hM, hb5⟩
  have hpc5 := hpc4.below hb5
  have hbw5 := below_trans hbw4 hb5
  have r0 := hpc5.c0
  have r1 := hpc5.c1
  have r2 := hpc5.c2
  have HZ5 := Lib.hid (HZ4.out.below hb5)
  have HM5 := Lib.hid hM
  clear hpc4 hb5 hM q0 q1 q2 HL4
  go_wp2_with fail
  refine (HCO.out _ _ _ _ HM5.out).mono ?_
  rintro e w6 ⟨XA, xc, rfl, hX, -, -, hb6⟩
  have hpc6 := hpc5.below hb6
  have hbw6 := below_trans hbw5 hb6
  have s0 := hpc6.c0
  have s1 := hpc6.c1
  have s2 := hpc6.c2
  have HZ6 := Lib.hid (HZ5.out.below hb6)
  obtain ⟨xb, xo, rfl, hxl, x0⟩ := hX 0 (by simp)
  simp [nthN] at x0
  clear hpc5 hb6 hX r0 r1 r2 HM5
  go_wp2_with fail
  refine ret_below (HCK.out _ hbw6 _ _ _ HZ6.out) fun w7 hb7 => ?_
  have x7 := (hb7.cell (p := ⟨xb, xo, none⟩) hxl).trans x0
  clear x0 s0 s1 s2
  go_wp2_with fail
  go_ret
  exact RetB.bool rfl (below_trans hbw6 hb7)
end Go.Proofs.YtlhipgejiacklaaDoor
namespace Go.Proofs.YtlhipgejiacklaaDoor
open Go.RowKit

theorem lin_zeros {p m : Nat} (hp : 1 ≤ p) : linN p (List.replicate m 0) (List.replicate m 0) 1 = List.replicate m 0 := by
  have := lin_zero (p := p) (a := List.replicate m 0) (fun x hx => by rw [(List.mem_replicate.1 hx).2]; omega)
  rw [List.length_replicate] at this; exact this
theorem Full.plus0 {p n h m : Nat} {N M : List ShN} (P : PlanN p n h) (H : Full p n h (List.replicate m 0) N) (K : Full p n h (List.replicate m 0) M) : Full p n h (List.replicate m 0) (plusT p N M) := by
  have := H.plus P K rfl
  rw [lin_zeros P.p1] at this; exact this
theorem Full.plusZ {p n h : Nat} {a : List Nat} {N M : List ShN} (P : PlanN p n h) (H : Full p n h a N) (K : Full p n h (List.replicate a.length 0) M) (ha : ∀ x ∈ a, x < p) : Full p n h a (plusT p N M) := by
  have := H.plus P K (by rw [List.length_replicate])
  rw [lin_zero ha] at this; exact this
/-- The sum of several lists of zeros. -/
def sumN (p : Nat) : List ShN → List (List ShN) → List ShN
  | N, [] => N
  | N, M :: r => sumN p (plusT p N M) r
theorem sum_zeros {p n h m : Nat} (P : PlanN p n h) (hm : m ≤ 2048) : ∀ (Ms : List (List ShN)) (N : List ShN), Full p n h (List.replicate m 0) N → (∀ M ∈ Ms, Full p n h (List.replicate m 0) M) →
    sumR p h (shL N) (Ms.map shL) = (shL (sumN p N Ms), 0) ∧ Full p n h (List.replicate m 0) (sumN p N Ms)
  | [], N, H, _ => ⟨rfl, H⟩
  | M :: r, N, H, K => by
    have hM := K M (by simp)
    obtain ⟨e1, e2⟩ := ap_full P H hM rfl (by rw [List.length_replicate]; exact hm)
    have ih := sum_zeros P hm r (plusT p N M) (H.plus0 P hM) (fun X hX => K X (by simp [hX]))
    simp only [List.map_cons, sumR, sumN]
    rw [if_pos e1, e2]
    exact ih
theorem su_zeros {p n h m : Nat} (P : PlanN p n h) (hm : m ≤ 2048) (N : List ShN) (Ms : List (List ShN)) (H : Full p n h (List.replicate m 0) N) (K : ∀ M ∈ Ms, Full p n h (List.replicate m 0) M) :
    suE p h ((N :: Ms).map shL) = 0 ∧ suL p h ((N :: Ms).map shL) = shL (sumN p N Ms) ∧ Full p n h (List.replicate m 0) (sumN p N Ms) := by
  obtain ⟨e1, e2⟩ := sum_zeros P hm Ms N H K
  have hg : gdB p h (lsAt ((N :: Ms).map shL) 0) = true := H.gd P.p1 (by rw [List.length_replicate]; exact hm)
  refine ⟨?_, ?_, e2⟩
  · unfold suE; rw [if_neg (by simp), if_pos hg]
    show (sumR p h (shL N) (Ms.map shL)).2 = 0
    rw [e1]
  · unfold suL; rw [if_neg (by simp), if_pos hg]
    show (sumR p h (shL N) (Ms.map shL)).1 = _
    rw [e1]
theorem sum_full {P : Nat → Prop} {p n h m : Nat} (PN : PlanN p n h) (hm : m ≤ 2048) (N : List ShN) (Ms : List (List ShN)) (H : Full p n h (List.replicate m 0) N) (K : ∀ M ∈ Ms, Full p n h (List.replicate m 0) M) (A : Option Addr) (c kL : Nat) (w : World) (hB : Bases w)
    (hA : ListsP P w A c ((N :: Ms).map shL)) (hk : kL = Ms.length + 1) (hl : Ms.length ≤ 1000) :
    Calls Tryd.prog 24 #[planV p n h, .slice A kL c] w (DealR (sumN p N Ms) h w) := by
  obtain ⟨e1, e2, e3⟩ := su_zeros PN hm N Ms H K
  have hsh : ShortLs ((N :: Ms).map shL) := fun k hk => by
    have hk' : k < (N :: Ms).length := by simpa using hk
    have hF : Full p n h (List.replicate m 0) ((N :: Ms)[k]) := by
      have := List.getElem_mem hk'
      rcases List.mem_cons.1 this with h0 | h0
      · rw [h0]; exact H
      · exact K _ h0
    have : lsAt ((N :: Ms).map shL) k = shL ((N :: Ms)[k]) := by
      unfold lsAt
      rw [List.getD_eq_getElem?_getD, List.getElem?_map, List.getElem?_eq_getElem hk']; rfl
    rw [this]
    exact ⟨hF.short (by rw [List.length_replicate]; omega), by rw [shL_len, hF.len]; have := PN.h7; omega⟩
  have := sum_any p n h A c kL ((N :: Ms).map shL) w PN hB hA hsh (by simp [hk]) (by simp; omega)
  rw [e1, e2] at this
  refine this.mono ?_
  rintro e w' ⟨A', c', rfl, h1, h2⟩
  exact ⟨A', c', by rw [shL_len, e3.len], h1, h2⟩
/-- Two lists in a literal. -/
theorem lists_two {P : Nat → Prop} {w : World} {g h : Nat} {A B : Option Addr} {ca cb : Nat} {N M : List ShN} (hg : w.heap[g]? = some (.cells #[.slice A h ca, .slice B h cb] 31 (0, 0))) (hP : P g) (hA : ShP P w A ca (shL N)) (hB : ShP P w B cb (shL M)) (hN : N.length = h) (hM : M.length = h) :
    ListsP P w (some ⟨g, 0, none⟩) 2 (([N, M]).map shL) := by
  refine ⟨fun k hk => ?_, ⟨Nat.le_refl _, by unfold maxLen; omega, (fun e => by cases e), .inr (fun a e => by injection e with e; subst e; rfl)⟩⟩
  have hk : k = 0 ∨ k = 1 := by simp at hk; omega
  rcases hk with rfl | rfl
  · exact ⟨g, 0, A, ca, rfl, blk_lt hg, hP, by rw [cell_of_row w g _ _ _ (0, 0) hg]; show some _ = some (Value.slice A (shL N).length ca); rw [shL_len, hN]; rfl, hA⟩
  · exact ⟨g, 0, B, cb, rfl, blk_lt hg, hP, by rw [cell_of_row w g _ _ _ (0, 0) hg]; show some _ = some (Value.slice B (shL M).length cb); rw [shL_len, hM]; rfl, hB⟩
theorem fadd_swap (p l a b : Nat) : fadd p l (fmul p 1 (fadd p a (fmul p 1 b))) = fadd p (fadd p l (fmul p 1 b)) (fmul p 1 a) := by
  unfold fadd fmul
  simp only [Nat.one_mul, Nat.add_mod_mod, Nat.mod_add_mod, Nat.mod_mod]
  congr 1; omega
theorem lin_swap {p : Nat} {L A B : List Nat} (h1 : A.length = L.length) (h2 : B.length = L.length) : linN p L (linN p A B 1) 1 = linN p (linN p L B 1) A 1 := by
  refine extN (by simp only [linN_len]; omega) fun i hi => ?_
  have hi' : i < L.length := by simp only [linN_len] at hi; omega
  rw [linN_nth (by simp only [linN_len]; omega), linN_nth (by omega), linN_nth (by simp only [linN_len]; omega), linN_nth (by omega)]
  exact fadd_swap _ _ _ _
theorem plus_swap {p n h : Nat} {s a b : List Nat} {N Z Y : List ShN} (H : Full p n h s N) (K : Full p n h a Z) (J : Full p n h b Y) (h1 : a.length = s.length) (h2 : b.length = s.length) : plusT p N (plusT p Z Y) = plusT p (plusT p N Y) Z := by
  refine shl_ext (by rw [plusT_len, plusT_len, plusT_len]) fun k hk => ?_
  rw [plusT_len] at hk
  have hkZ : k < Z.length := by rw [K.len, ← H.len]; exact hk
  have hkY : k < Y.length := by rw [J.len, ← H.len]; exact hk
  rw [(plusT_at hk).1, (plusT_at hk).2, (plusT_at (show k < (plusT p N Y).length by rw [plusT_len]; exact hk)).1, (plusT_at (show k < (plusT p N Y).length by rw [plusT_len]; exact hk)).2, (plusT_at hk).1, (plusT_at hk).2, (plusT_at hkZ).2]
  exact ⟨rfl, lin_swap (by rw [K.made.vlen hkZ, H.made.vlen hk, h1]) (by rw [J.made.vlen hkY, H.made.vlen hk, h2])⟩
end Go.Proofs.YtlhipgejiacklaaDoor
namespace Go.Proofs.YtlhipgejiacklaaDoor
open Go.RowKit

theorem info_shares : (Tryd.prog.info? 31).map (fun i => (i.zero, i.size, i.bytes)) = some (some (.slice none 0 0), 1, 24) := by kernel_rfl
theorem info_ints : (Tryd.prog.info? 22).map (fun i => (i.zero, i.size, i.bytes)) = some (some (.slice none 0 0), 1, 24) := by kernel_rfl
/-- What is said of a value in memory of which only the blocks that satisfy P count. -/
structure PhiOK {α : Type} (Φ : (Nat → Prop) → World → Value → α → Prop) : Prop where
  keep : ∀ {P : Nat → Prop} {w w' : World} {v : Value} {x : α}, Φ P w v x → Kept P w w' → Φ P w' v x
  mono : ∀ {P Q : Nat → Prop} {w : World} {v : Value} {x : α}, Φ P w v x → (∀ b, b < w.heap.size → P b → Q b) → Φ Q w v x
def PhiS (P : Nat → Prop) (w : World) (v : Value) (S : List Shr) : Prop := ∃ B c, v = .slice B S.length c ∧ ShP P w B c S
theorem phiS : PhiOK PhiS := ⟨fun ⟨B, c, e, h⟩ hk => ⟨B, c, e, h.keep hk⟩, fun ⟨B, c, e, h⟩ hq => ⟨B, c, e, h.mono hq⟩⟩
def PhiN (P : Nat → Prop) (w : World) (v : Value) (L : List Nat) : Prop := ∃ B c, v = .slice B L.length c ∧ IntsP P w B c (ofN L)
theorem phiN : PhiOK PhiN := ⟨fun ⟨B, c, e, h⟩ hk => ⟨B, c, e, h.keep hk⟩, fun ⟨B, c, e, h⟩ hq => ⟨B, c, e, h.mono hq⟩⟩
structure RowsG {α : Type} (Φ : (Nat → Prop) → World → Value → α → Prop) (e : TypeId) (Q : Nat → Prop) (w : World) (base : Nat) (v : Value) (xs : List α) : Prop where
  ex : ∃ Vs : List Value, w.ownsRow base e 1 v Vs.length Vs ∧ Vs.length = xs.length ∧ ∀ k (h : k < xs.length), ∃ u, Vs[k]? = some u ∧ Φ (fun b => Q b ∧ v.ownBlock ≠ some b) w u xs[k]
theorem RowsG.nil {α : Type} (Φ : (Nat → Prop) → World → Value → α → Prop) (e : TypeId) (Q : Nat → Prop) (w : World) (base : Nat) : RowsG Φ e Q w base (.slice none 0 0) [] :=
  ⟨[], World.ownsRow_nil _ _ _ _, rfl, fun k h => absurd h (by simp)⟩
theorem RowsG.kept {α : Type} {Φ : (Nat → Prop) → World → Value → α → Prop} {e : TypeId} {Q : Nat → Prop} {w w' : World} {base : Nat} {v : Value} {xs : List α} {row : Option Nat} (h : RowsG Φ e Q w base v xs) (hΦ : PhiOK Φ) (hg : w.grownBy w' row) (h1 : v.ownBlock = none ∨ v.ownBlock ≠ row) (h2 : ∀ b, Q b → row ≠ some b) : RowsG Φ e Q w' base v xs := by
  obtain ⟨Vs, e1, e2, e3⟩ := h.ex
  refine ⟨Vs, World.ownsRow.kept e1 hg h1, e2, fun k hk => ?_⟩
  obtain ⟨u, f1, f2⟩ := e3 k hk
  exact ⟨u, f1, hΦ.keep f2 ⟨hg.size, fun b hb hlt => hg.block b hlt (fun e => h2 b hb.1 e.symm)⟩⟩
theorem RowsG.below {α : Type} {Φ : (Nat → Prop) → World → Value → α → Prop} {e : TypeId} {Q : Nat → Prop} {w w' : World} {base : Nat} {v : Value} {xs : List α} (h : RowsG Φ e Q w base v xs) (hΦ : PhiOK Φ) (hb : Below w.heap.size w w') : RowsG Φ e Q w' base v xs := by
  obtain ⟨Vs, e1, e2, e3⟩ := h.ex
  refine ⟨Vs, own_below e1 hb, e2, fun k hk => ?_⟩
  obtain ⟨u, f1, f2⟩ := e3 k hk
  exact ⟨u, f1, hΦ.keep f2 (Kept.below hb)⟩
theorem RowsG.mv {α : Type} {Φ : (Nat → Prop) → World → Value → α → Prop} {e : TypeId} {Q : Nat → Prop} {w w' : World} {base D : Nat} {v : Value} {xs : List α} (h : RowsG Φ e Q w base v xs) (hΦ : PhiOK Φ) (hg : w.grownBy w' (some D)) (hD : D < base) (hQ : ∀ b, Q b → b ≠ D) : RowsG Φ e Q w' base v xs := by
  obtain ⟨Vs, e1, e2, e3⟩ := h.ex
  refine RowsG.kept ⟨Vs, e1, e2, e3⟩ hΦ hg ?_ (fun b hb e => hQ b hb (Option.some.inj e).symm)
  rcases hv : v.ownBlock with _ | b
  · exact .inl rfl
  · exact .inr (fun e => by injection e with e; have := (World.ownsRow.lt e1 b hv).1; omega)
/-- One more, that was made behind base, and lies not in the row. -/
theorem RowsG.more {α : Type} {Φ : (Nat → Prop) → World → Value → α → Prop} {e : TypeId} {w w' : World} {base : Nat} {v v' u : Value} {xs : List α} {x : α} {Vs : List Value} (hΦ : PhiOK Φ)
    (e2 : Vs.length = xs.length) (e3 : ∀ k (h : k < xs.length), ∃ u, Vs[k]? = some u ∧ Φ (fun b => base ≤ b ∧ v.ownBlock ≠ some b) w u xs[k])
    (hu : Φ (fun b => base ≤ b ∧ v.ownBlock ≠ some b) w u x) (hown : w'.ownsRow base e 1 v' (Vs.length + 1) (Vs ++ [u])) (hg : w.grownBy w' v.ownBlock) (hv : ∀ b, v'.ownBlock = some b → v.ownBlock = some b ∨ w.heap.size ≤ b) : RowsG Φ e (fun b => base ≤ b) w' base v' (xs ++ [x]) := by
  have key : ∀ {y : α} {t : Value}, Φ (fun b => base ≤ b ∧ v.ownBlock ≠ some b) w t y → Φ (fun b => base ≤ b ∧ v'.ownBlock ≠ some b) w' t y := fun hI =>
    hΦ.mono (hΦ.keep (hΦ.mono (Q := fun b => (base ≤ b ∧ v'.ownBlock ≠ some b) ∧ v.ownBlock ≠ some b) hI (fun b hlt hb => ⟨⟨hb.1, fun e => by
      rcases hv b e with h | h
      · exact hb.2 h
      · omega⟩, hb.2⟩)) ⟨hg.size, fun b hb hlt => hg.block b hlt (fun e => hb.2 e.symm)⟩) (fun b _ hb => hb.1)
  refine ⟨Vs ++ [u], by rw [List.length_append]; exact hown, by simp [e2], fun k hk => ?_⟩
  rcases Nat.lt_or_ge k xs.length with h | h
  · obtain ⟨t, f1, f2⟩ := e3 k h
    refine ⟨t, by rw [List.getElem?_append_left (by omega)]; exact f1, ?_⟩
    rw [List.getElem_append_left h]; exact key f2
  · obtain rfl : k = xs.length := by simp at hk; omega
    refine ⟨u, by rw [← e2]; simp, ?_⟩
    rw [List.getElem_append_right (by omega)]
    simpa using key hu
theorem RowsG.read {α : Type} {Φ : (Nat → Prop) → World → Value → α → Prop} {e : TypeId} {Q : Nat → Prop} {w : World} {base : Nat} {v : Value} {xs : List α} (h : RowsG Φ e Q w base v xs) (hΦ : PhiOK Φ) :
    ∃ A c, v = .slice A xs.length c ∧ IOK A c xs.length ∧ ∀ k (h : k < xs.length), ∃ b off u, A = some ⟨b, off, none⟩ ∧ b < w.heap.size ∧ base ≤ b ∧ w.cell? ⟨b, off + k, none⟩ = some u ∧ Φ Q w u xs[k] := by
  obtain ⟨Vs, e1, e2, e3⟩ := h.ex
  rcases e1.2 with ⟨rfl, h0⟩ | ⟨g, cap, cur, rfl, hg, hh, hnc, hcm, hcs, htk⟩
  · have : xs = [] := List.eq_nil_of_length_eq_zero (by omega)
    subst this
    exact ⟨none, 0, rfl, IOK.none0, fun k hk => absurd hk (by simp)⟩
  · refine ⟨some ⟨g, 0, none⟩, cap, by rw [e2], ⟨by rw [← e2]; exact hnc, hcm, (fun e => by cases e), .inr (fun a e => by injection e with e; subst e; rfl)⟩, fun k hk => ?_⟩
    obtain ⟨u, f1, f2⟩ := e3 k hk
    refine ⟨g, 0, u, rfl, blk_lt hh, hg, ?_, hΦ.mono f2 (fun b _ hb => hb.1)⟩
    have := World.ownsRow.cellAt e1 (j := k) (by omega)
    rw [Nat.zero_add, this, f1]
theorem RowsG.lists {e : TypeId} {Q : Nat → Prop} {w : World} {base : Nat} {v : Value} {Ns : List (List ShN)} (h : RowsG PhiS e Q w base v (Ns.map shL)) : ∃ A c, v = .slice A Ns.length c ∧ ListsP (fun b => base ≤ b ∨ Q b) w A c (Ns.map shL) := by
  obtain ⟨A, c, rfl, h1, h2⟩ := h.read phiS
  refine ⟨A, c, by rw [List.length_map], ⟨fun k hk => ?_, h1⟩⟩
  obtain ⟨b, off, u, hA, hb, hbs, hc, B, c', rfl, hS⟩ := h2 k hk
  have : lsAt (Ns.map shL) k = (Ns.map shL)[k] := by
    have hk' : k < Ns.length := by simpa using hk
    unfold lsAt; simp [List.getD_eq_getElem?_getD, hk']
  rw [this]
  exact ⟨b, off, B, c', hA, hb, .inl hbs, hc, hS.mono (fun b _ hb => .inr hb)⟩
theorem RowsG.lt1 {α : Type} {Φ : (Nat → Prop) → World → Value → α → Prop} {e : TypeId} {Q : Nat → Prop} {w : World} {base : Nat} {v : Value} {xs : List α} (h : RowsG Φ e Q w base v xs) : ∀ b, v.ownBlock = some b → b < w.heap.size := fun b hb => by
  obtain ⟨Vs, e1, -, -⟩ := h.ex
  exact (World.ownsRow.lt e1 b hb).2
/-- append of one value that fills one cell. -/
theorem app_val {ops : Array Oper} {rest : List Oper} {o : Oper} {a : Act} {Q : Exit → Act → World → Prop} (hgd : o.guard = none) (s x : Operand) (t : TypeId)
    (ho : o.op = .call { callee := .builtin .append, args := #[s, x], argTypes := #[t, t] })
    {base : Nat} {e : TypeId} {z : Value} {bytes : Nat} (ht : Tryd.prog.underlying t = some (.slice e)) (hinfo : (Tryd.prog.info? e).map (fun i => (i.zero, i.size, i.bytes)) = some (some z, 1, bytes)) (hzs : z.cells.size = 1)
    {w : World} {v : Value} {Vs : List Value} {u : Value} (hs : a.eval s = v) (hown : w.ownsRow base e 1 v Vs.length Vs)
    (hx : a.eval x = .slice (some ⟨w.heap.size, 0, none⟩) 1 1) (h1 : u.oneCell' = true) (hl : Vs.length ≤ 1048576) (hb24 : bytes ≤ 32) (hb8 : 0 < bytes) (hbase : base ≤ w.heap.size)
    (h : ∀ v' w', w'.ownsRow base e 1 v' (Vs.length + 1) (Vs ++ [u]) → w.grownBy w' v.ownBlock → Below base w w' → (∀ b, v'.ownBlock = some b → v.ownBlock = some b ∨ w.heap.size ≤ b) → wpList Tryd.prog ops Q rest (a.put o.dst v') w') :
    wpList Tryd.prog ops Q (o :: rest) a (w.alloc (.cells #[u] e)) := by
  obtain ⟨i0, hi, hz0, hz1, hz2⟩ := info_parts hinfo
  have hbb : (Vs.length + 1) * bytes ≤ 1048577 * 32 := Nat.mul_le_mul (by omega) hb24
  refine wpList_append_own_at _ hgd s x t ho base e i0 z 1 bytes ht hi hz0 hz1 hz2 hzs (by omega) v Vs.length Vs hs (hown.alloc _) ⟨w.heap.size, 0, none⟩ 1 1 [u] hx rfl (fun j y hj => ?_) (fun y hy => by simp at hy; subst hy; exact h1) (by unfold maxLen; omega) (by omega) (by simp; omega) ?_
  · rcases j with _ | j
    · simp at hj; subst hj
      simp [Addr.add]
    · simp at hj
  · intro v' w' h2 h3 _ h5
    have hg : w.grownBy w' v.ownBlock := ⟨h3.os, h3.tape, h3.output, Nat.le_trans (by simp) h3.size, fun k hk hne => (h3.block k (by simp; omega) hne).trans (Below.heap_alloc w _ k hk)⟩
    refine h v' w' h2 hg ((Below.refl _ _).grown hg hbase (fun k hk => (hown.lt k hk).1)) (fun b e => ?_)
    rcases h5 with h5 | h5
    · exact .inl (h5 ▸ e)
    · rw [h5] at e; injection e with e; right; rw [size_alloc] at e; omega
end Go.Proofs.YtlhipgejiacklaaDoor
namespace Go.Proofs.YtlhipgejiacklaaDoor
open Go.RowKit

attribute [local go_sem high] sliced_low
set_option maxRecDepth 100000 in
set_option maxHeartbeats 8000000 in
theorem refreshKeeps_walk (A0 : Option Addr) (L0 : List Int) (c0 : Nat) (w : World) (hB : Bases w) (hl0 : L0.length ≤ maxLen) (hI0 : IntsAt w A0 L0) (_ : ∀ n ∈ L0, -9223372036854775808 ≤ n ∧ n ≤ 9223372036854775807) :
    Calls Tryd.prog 3 #[.slice A0 L0.length c0] w (RetB (.bool true) w) := by
  have HB := Lib.hid hB
  clear hB
  by_cases hlight : (L0.length : Int) ≤ 500
  · have hL := light_any A0 L0.length c0 w
    rw [decide_eq_true hlight] at hL
    have HLt := Lib.hid hL
    clear hL hlight
    go_enter Tryd.func3, Tryd.ntmps3
    go_wp2_with fail
    refine ret_pure HLt.out ?_
    clear HLt
    go_wp2_with fail
    refine (roll_any A0 L0 c0 _ hl0 hI0).mono ?_
    rintro e w1 ⟨D, rfl, hDs, hD, hb1⟩
    have hE1 : Env w w1 D L0 := ⟨hD, hDs, hb1⟩
    clear hI0 hD hb1
    go_wp2_with fail
    refine (prime_any D L0 _ hE1.dice).mono ?_
    rintro e w2 ⟨p, rfl, hpp, hp5, -, hD2, hg2⟩
    have hE2 := hE1.next hD2 hg2
    have h2 := hpp.1
    have h1 : 1 ≤ p := by omega
    have hp2 : p ≤ 2147483648 := by omega
    have HPP := Lib.hid hpp
    clear hg2 hD2 hE1 hpp
    go_wp2_with fail
    refine (plan_any D _ p _ hE2.dice h2 hp2).mono ?_
    rintro e w3 ⟨n, h, R3, rfl, ⟨hn1, hnh, hh7, hhp⟩, hD3, hg3⟩
    have hE3 := hE2.next hD3 hg3
    have HPN := Lib.hid (PlanN.mk' HPP.out (by omega) hn1 hnh hh7 hhp)
    clear hD3 hg3 hE2 HPP
    go_wp2_with fail
    refine gen_calls fun w4 hw4 => ?_
    have HP : Hid (PlanCell w4 w3.heap.size p n h) := Lib.hid (by rw [hw4]; exact PlanCell.new _ _ _ rfl)
    have hE : Env w w4 D R3 := hE3.mv (by rw [hw4]; exact below_alloc _ _)
    have hxD : w3.heap.size ≠ D := by have := hE3.lt; omega
    have hlx := HP.out.lt
    have p0 := HP.out.c0
    have p1 := HP.out.c1
    have p2 := HP.out.c2
    generalize w3.heap.size = px at *
    clear hw4 hE3
    refine (dealt_any D _ p n h 2 _ hE.dice HPN.out (by omega) (by omega)).mono ?_
    rintro e w5 ⟨SA, sc, sec, LA, lc, ran, R5, rfl, hDN, hS, hL, hD5, hg5⟩
    replace hE := hE.next hD5 hg5; replace HP := Lib.hid (HP.out.mv hg5 hxD); replace p0 := HP.out.c0; replace p1 := HP.out.c1; replace p2 := HP.out.c2
    have HS := Lib.hid hS
    have HL := Lib.hid hL
    have HDN := Lib.hid hDN
    have hq1 : 1 ≤ sec.length := hDN.lo
    have hq2 : sec.length ≤ 2 := hDN.hi
    have HF := Lib.hid (Full.deal HPN.out hDN.sp hDN.rp)
    obtain ⟨N, hN⟩ : ∃ N, N = dealN p n h sec ran := ⟨_, rfl⟩
    rw [← hN] at HL HF
    clear hDN hS hL hD5 hg5 hN
    go_wp2_with fail
    obtain ⟨rl, hrl⟩ : ∃ rl, rl = sec.length * (n - 1) := ⟨_, rfl⟩
    have hrl2 : rl ≤ 1048576 := by rw [hrl]; have := Nat.mul_le_mul hq2 (show n - 1 ≤ 7 by omega); omega
    have HRN := Lib.hid (fun (W : World) => refRandom_nat p n h sec.length rl W hrl hn1 (by omega) (by omega))
    have HRL := Lib.hid hrl
    clear hrl
    have hrep : (List.replicate sec.length 0).length = sec.length := List.length_replicate
    have HREP := Lib.hid hrep
    clear hrep
    refine (next_nat D _ 3 _ hE.dice (by omega) (by omega)).mono ?_
    rintro e w6 ⟨m0, rfl, hm0, hD6, hg6⟩
    replace hE := hE.next hD6 hg6; replace HP := Lib.hid (HP.out.mv hg6 hxD); replace p0 := HP.out.c0; replace p1 := HP.out.c1; replace p2 := HP.out.c2; replace HS := Lib.hid (HS.out.mv hg6); replace HL := Lib.hid (HL.out.mv hg6)
    clear hD6 hg6
    go_wp2_with fail
    obtain ⟨q, hq⟩ : ∃ q : Nat, 1 + (m0 : Int) = (q : Int) := ⟨1 + m0, by omega⟩
    rw [hq]
    have hq3 : q ≤ 3 := by omega
    clear hq hm0
    have HST := Lib.hid (And.intro hE (And.intro HP.out (And.intro HS.out (And.intro HL.out HF.out))))
    clear hE HP p0 p1 p2 HS HL HF
    go_loopw [6, 35] (fun l i wr => ∃ (j : Nat) (N' : List ShN) (LA' : Option Addr) (lc' : Nat) (R' : List Int), j ≤ q ∧ i = .int .i64 j ∧ l = .slice LA' h lc' ∧ Full p n h sec N' ∧ ShP (· ≠ D) wr LA' lc' (shL N') ∧ Held wr D SA sc sec ∧ PlanCell wr px p n h ∧ Env w wr D R') (fun _ i _ => q - (intOf i).toNat)
    case atStart => exact ⟨0, N, LA, lc, _, Nat.zero_le _, rfl, rfl, HST.out.2.2.2.2, HST.out.2.2.2.1, HST.out.2.2.1, HST.out.2.1, HST.out.1⟩
    case round =>
      obtain ⟨j, N', LA', lc', R', hj, rfl, rfl, hF, hL, hS, hP, hE⟩ := hrel
      have HF := Lib.hid hF
      have HL := Lib.hid hL
      have HS := Lib.hid hS
      have HP := Lib.hid hP
      have p0 := HP.out.c0
      have p1 := HP.out.c1
      have p2 := HP.out.c2
      clear hF hL hS hP HST
      by_cases hlt : j < q
      · obtain ⟨wo, rfl⟩ : ∃ wo : World, wo = wr := ⟨_, rfl⟩
        go_wp2_with fail
        refine (next_nat D _ 3 _ hE.dice (by omega) (by omega)).mono ?_
        rintro e w7 ⟨m1, rfl, hm1, hD7, hg7⟩
        replace hE := hE.next hD7 hg7; replace HP := Lib.hid (HP.out.mv hg7 hxD); replace p0 := HP.out.c0; replace p1 := HP.out.c1; replace p2 := HP.out.c2; replace HS := Lib.hid (HS.out.mv hg7); replace HL := Lib.hid (HL.out.mv hg7)
        clear hD7 hg7
        obtain ⟨q2, hq2'⟩ : ∃ q2 : Nat, 1 + (m1 : Int) = (q2 : Int) := ⟨1 + m1, by omega⟩
        have hq3' : q2 ≤ 3 := by omega
        have hq1' : 1 ≤ q2 := by omega
        go_wp2_with fail

        clear hq2' hm1
        have hDB := hE.lt
        have hxB := HP.out.lt
        have HL0 := Lib.hid (HL.out.mono (Q := fun b => b ≠ D ∧ b < w7.heap.size) (fun b hb hd => ⟨hd, hb⟩))
        have HS0 := Lib.hid HS.out.nats
        have HST := Lib.hid (And.intro hE (And.intro HP.out (And.intro HS.out HL0.out)))
        clear hE HP p0 p1 p2 HS HL HL0
        go_loopw [7, 40] (fun v i wr => ∃ (t : Nat) (Ns : List (List ShN)) (R' : List Int), t ≤ q2 ∧ i = .int .i64 t ∧ Ns.length = t ∧ RowsG PhiS 31 (fun b => w7.heap.size ≤ b) wr w7.heap.size v (Ns.map shL) ∧ (∀ M ∈ Ns, Full p n h (List.replicate sec.length 0) M) ∧ ShP (fun b => b ≠ D ∧ b < w7.heap.size) wr LA' lc' (shL N') ∧ Held wr D SA sc sec ∧ PlanCell wr px p n h ∧ Env w wr D R' ∧ w7.heap.size ≤ wr.heap.size) (fun _ i _ => q2 - (intOf i).toNat)
        case atStart => exact ⟨0, [], _, Nat.zero_le _, rfl, rfl, RowsG.nil _ _ _ _ _, (by simp), HST.out.2.2.2, HST.out.2.2.1, HST.out.2.1, HST.out.1, Nat.le_refl _⟩
        case round =>
          obtain ⟨t, Ns, R', ht, rfl, hNl, hR, hNs, hL, hS, hP, hE, hzr⟩ := hrel
          have HNL := Lib.hid hNl
          have HNS := Lib.hid hNs
          have HR := Lib.hid hR
          have HL := Lib.hid hL
          have HS := Lib.hid hS
          have HP := Lib.hid hP
          have p0 := HP.out.c0
          have p1 := HP.out.c1
          have p2 := HP.out.c2
          obtain ⟨VA, vc, hv, -⟩ := hR.lists
          rw [hNl] at hv
          subst hv
          clear hNl hNs hL hS hP HST hR
          by_cases hlt2 : t < q2
          · go_wp2_with fail
            go_region_held3 (fun w' => w'.cell? ⟨px, 0, none⟩ = some (.int .i64 (p : Int)) ∧ w'.cell? ⟨px, 1, none⟩ = some (.int .i64 (n : Int)) ∧ w'.cell? ⟨px, 2, none⟩ = some (.int .i64 (h : Int))) (first | go_keep)
              (first
                | (go_at_call 22; refine ret_below (HRN.out _) ?_; intro waa hb; have hbaa : Below wr.heap.size wr waa := (below_undrew1 hb); replace hE := hE.mv hbaa; replace HP := Lib.hid (HP.out.below hbaa); replace p0 := HP.out.c0; replace p1 := HP.out.c1; replace p2 := HP.out.c2; replace HS := Lib.hid (HS.out.below hbaa); replace HL := Lib.hid (HL.out.below hbaa); replace HR := Lib.hid (HR.out.below phiS hbaa); replace hzr := Nat.le_trans hzr hbaa.size)
                | (go_at_call 21; refine (elements_any D _ p rl _ hE.dice h1 hp2 hrl2).mono ?_; intro e wba he; obtain ⟨RAa, rca, raa, RRa, rfl, hrnla, hrpa, hRa, hDba, hgba⟩ := elems_held hE.lt he; have HRNLa := Lib.hid hrnla; clear hrnla; replace hE := hE.next hDba hgba; replace HP := Lib.hid (HP.out.mv hgba hxD); replace p0 := HP.out.c0; replace p1 := HP.out.c1; replace p2 := HP.out.c2; replace HS := Lib.hid (HS.out.mv hgba); replace HL := Lib.hid (HL.out.keep ⟨hgba.size, fun b hb hlt => hgba.block b hlt (fun e => by injection e with e; exact hb.1 e)⟩); replace HR := Lib.hid (HR.out.mv phiS hgba hDB (fun b hb => by omega)); replace hzr := Nat.le_trans hzr hgba.size)
                | (go_at_call 20; have hzw := hE.lt; have hws : w7.heap.size ≤ wba.heap.size := hzr; have hbv := HR.out.lt1; refine (zero_made p n h sec.length _ HPN.out (by omega) RAa rca raa _ (hE.bases HB.out) hRa.nats hRa.ok (by have := HRNLa.out; omega) hrpa (by exact HRNLa.out.trans HRL.out) rfl).mono ?_; rintro e wca ⟨ZA, zc, rfl, hZ, hbca⟩; have HZ := Lib.hid (hZ.mono (Q := fun b => w7.heap.size ≤ b ∧ (Value.slice VA t vc).ownBlock ≠ some b) (fun b _ hb => ⟨by omega, fun e => by have := hbv b e; omega⟩)); replace hE := hE.mv hbca; replace HP := Lib.hid (HP.out.below hbca); replace p0 := HP.out.c0; replace p1 := HP.out.c1; replace p2 := HP.out.c2; replace HS := Lib.hid (HS.out.below hbca); replace HL := Lib.hid (HL.out.below hbca); replace HR := Lib.hid (HR.out.below phiS hbca); replace hzr := Nat.le_trans hzr hbca.size))
            have HFZ := Lib.hid (Full.deal HPN.out (sec := List.replicate sec.length 0) (fun x hx => by rw [(List.mem_replicate.1 hx).2]; omega) hrpa)
            obtain ⟨Z, hz⟩ : ∃ Z, Z = dealN p n h (List.replicate sec.length 0) raa := ⟨_, rfl⟩
            rw [← hz] at HZ HFZ
            clear he hRa hrpa hDba hgba hbaa hbca hZ hz HRNLa hb hbv hws hzw
            go_wp2_with fail
            have hall : ((List.replicate sec.length 0).all fun x => x == 0) = true := by rw [List.all_eq_true]; intro x hx; rw [(List.mem_replicate.1 hx).2]; rfl
            have HCK := Lib.hid (checks_full HPN.out HFZ.out (by rw [HREP.out]; omega) ZA zc wca (hE.bases HB.out) HZ.out)
            rw [hall] at HCK
            clear hall
            refine ret_below HCK.out ?_
            intro w8 hb8
            replace hE := hE.mv hb8; replace HP := Lib.hid (HP.out.below hb8); replace p0 := HP.out.c0; replace p1 := HP.out.c1; replace p2 := HP.out.c2; replace HS := Lib.hid (HS.out.below hb8); replace HL := Lib.hid (HL.out.below hb8); replace HR := Lib.hid (HR.out.below phiS hb8); replace hzr := Nat.le_trans hzr hb8.size; replace HZ := Lib.hid (HZ.out.below hb8)
            clear HCK hb8
            obtain ⟨Vs, e1, e2, e3⟩ := HR.out.ex
            have HE3 := Lib.hid (And.intro e2 e3)
            have hVl : Vs.length = t := by rw [e2, List.length_map, HNL.out]
            have HVL := Lib.hid hVl
            have e1' : w8.ownsRow w7.heap.size 31 1 (.slice VA t vc) Vs.length Vs := e1
            have HOW := Lib.hid e1'
            clear e1 e2 e3 e1' hVl
            go_wp2_with (at_builtin; refine app_val rfl (.tmp 65) (.tmp 67) 35 rfl (base := w7.heap.size) Tryd.underlying35 info_shares rfl rfl HOW.out rfl rfl (by rw [HVL.out]; omega) (by omega) (by omega) hzr ?_; intro v4 w9 hown4 hg4 hb4 hv4)
            have hEB : w7.heap.size ≤ w9.heap.size := Nat.le_trans hzr hg4.size
            have HE9 := Lib.hid (hE.app hDB hb4)
            have HP9 := Lib.hid (HP.out.keep (hb4.block px hxB))
            have HL9 := Lib.hid (HL.out.keep (w' := w9) ⟨hg4.size, fun b hb _ => hb4.block b hb.2⟩)
            have HS9 := Lib.hid (Held.app HS0.out HS.out hb4)
            have HR9 := Lib.hid (RowsG.more phiS HE3.out.1 HE3.out.2 ⟨ZA, zc, by rw [shL_len, HFZ.out.len], HZ.out⟩ hown4 hg4 hv4)
            rw [show Ns.map shL ++ [shL Z] = (Ns ++ [Z]).map shL by simp] at HR9
            have HNS9 := Lib.hid (show ∀ M ∈ Ns ++ [Z], Full p n h (List.replicate sec.length 0) M from fun M hM => by
              rcases List.mem_append.1 hM with h0 | h0
              · exact HNS.out M h0
              · rw [List.mem_singleton.1 h0]; exact HFZ.out)
            clear hown4 hg4 hb4 hv4
            go_roundw
            case rel => exact ⟨t + 1, Ns ++ [Z], _, by omega, by go_num, by rw [List.length_append, HNL.out]; rfl, HR9.out, HNS9.out, HL9.out, HS9.out, HP9.out, HE9.out, hEB⟩
            case measure => simp [intOf]; omega
          · obtain ⟨A', c', hv', hLs⟩ := HR.out.lists
            injection hv' with v1 v2 v3
            subst v1 v3
            obtain ⟨N1, Ms, rfl⟩ : ∃ N1 Ms, Ns = N1 :: Ms := by
              cases Ns with
              | nil => exact absurd HNL.out (by simp; omega)
              | cons a b => exact ⟨a, b, rfl⟩
            have hMl : Ms.length + 1 = t := by have := HNL.out; simpa using this
            have HML := Lib.hid hMl
            have hMl2 : Ms.length ≤ 3 := by omega
            have HLS := Lib.hid hLs
            have HFT := Lib.hid (su_zeros HPN.out (by omega) N1 Ms (HNS.out N1 (by simp)) (fun M hM => HNS.out M (by simp [hM]))).2.2
            clear v2 hMl hLs
            go_wp2_with fail
            refine (sum_full HPN.out (by omega) N1 Ms (HNS.out N1 (by simp)) (fun M hM => HNS.out M (by simp [hM])) VA vc t _ (hE.bases HB.out) HLS.out HML.out.symm (by omega)).mono ?_
            rintro e w9 ⟨TA, tc, rfl, hT, hb9⟩
            have HT := Lib.hid (hT.away hE.lt)
            clear hT HLS HR HNS
            replace hE := hE.mv hb9; replace HP := Lib.hid (HP.out.below hb9); replace p0 := HP.out.c0; replace p1 := HP.out.c1; replace p2 := HP.out.c2; replace HS := Lib.hid (HS.out.below hb9); replace HL := Lib.hid (HL.out.below hb9)
            clear hb9
            generalize sumN p N1 Ms = T at *
            go_wp2_with fail
            refine (apply_full HPN.out HF.out HFT.out HREP.out.symm (by omega) LA' TA lc' tc _ (hE.bases HB.out) HL.out HT.out).mono ?_
            rintro e wx ⟨XA, xc, rfl, hX, hbx⟩
            have HX := Lib.hid (hX.away hE.lt)
            replace hE := hE.mv hbx; replace HP := Lib.hid (HP.out.below hbx); replace p0 := HP.out.c0; replace p1 := HP.out.c1; replace p2 := HP.out.c2; replace HS := Lib.hid (HS.out.below hbx); replace HL := Lib.hid (HL.out.below hbx); replace HT := Lib.hid (HT.out.below hbx)
            clear hX hbx
            have HFX := Lib.hid (HF.out.plusZ HPN.out HFT.out HDN.out.sp)
            have hall : ((List.replicate sec.length 0).all fun x => x == 0) = true := by rw [List.all_eq_true]; intro x hx; rw [(List.mem_replicate.1 hx).2]; rfl
            have HCK := Lib.hid (checks_full HPN.out HFT.out (by rw [HREP.out]; omega) TA tc wx (hE.bases HB.out) HT.out)
            rw [hall] at HCK
            clear hall
            go_wp2_with fail
            refine ret_below HCK.out ?_
            intro wy hby
            clear HCK
            replace hE := hE.mv hby; replace HP := Lib.hid (HP.out.below hby); replace p0 := HP.out.c0; replace p1 := HP.out.c1; replace p2 := HP.out.c2; replace HS := Lib.hid (HS.out.below hby); replace HL := Lib.hid (HL.out.below hby); replace HT := Lib.hid (HT.out.below hby); replace HX := Lib.hid (HX.out.below hby)
            go_wp2_with fail
            refine ret_below (refFits_made HFX.out.made HPN.out XA xc h _ HX.out (by omega) (by rw [HFX.out.len]; omega) HFX.out.len.symm) ?_
            intro wz hbz
            replace hE := hE.mv hbz; replace HP := Lib.hid (HP.out.below hbz); replace p0 := HP.out.c0; replace p1 := HP.out.c1; replace p2 := HP.out.c2; replace HS := Lib.hid (HS.out.below hbz); replace HL := Lib.hid (HL.out.below hbz); replace HT := Lib.hid (HT.out.below hbz); replace HX := Lib.hid (HX.out.below hbz)
            clear hby hbz
            go_wp2_with fail
            go_roundw
            case rel => exact ⟨j + 1, _, XA, xc, _, by omega, by go_num, rfl, HFX.out, HX.out, HS.out, HP.out, hE⟩
            case measure => simp [intOf]; omega
      · have hlen := HF.out.len
        have HLEN := Lib.hid hlen
        clear hlen
        go_wp2_with fail
        go_region_held3 (fun w' => w'.cell? ⟨px, 0, none⟩ = some (.int .i64 (p : Int)) ∧ w'.cell? ⟨px, 1, none⟩ = some (.int .i64 (n : Int)) ∧ w'.cell? ⟨px, 2, none⟩ = some (.int .i64 (h : Int))) (first | go_keep)
          (first
            | (go_at_call 28; refine (turn_made D _ LA' lc' h N' n _ (by exact hE.dice) (by exact HL.out.drewT) (HF.out.short (by omega)) (by rw [HLEN.out]; omega) (by omega) HLEN.out.symm).mono ?_; rintro e wt ⟨TA, tc, MM, Rt, rfl, htp, htl, hle, hTS, hDt, hgt⟩; have hgt' : wr.grownBy wt (some D) := grown_undrew hgt; replace hE := hE.next hDt hgt'; replace HP := Lib.hid (HP.out.mv hgt' hxD); replace p0 := HP.out.c0; replace p1 := HP.out.c1; replace p2 := HP.out.c2; replace HS := Lib.hid (HS.out.mv hgt'); replace HL := Lib.hid (HL.out.mv hgt'); have HMM := Lib.hid (HF.out.made.part htp); have hmn : n ≤ MM.length := hle (HLEN.out.symm ▸ hnh); have hml : MM.length ≤ 7 := Nat.le_trans (HLEN.out ▸ htl) hh7; have HTS := Lib.hid hTS)
            | (go_at_call 27; refine (refCombine_made HMM.out HPN.out TA tc MM.length _ (by exact HTS.out) (by omega) (by omega) rfl hmn).mono ?_; intro e wu he; obtain ⟨XA, xc, rfl, hX, hbu⟩ := he.held hE.lt; replace hE := hE.mv hbu; replace HP := Lib.hid (HP.out.below hbu); replace p0 := HP.out.c0; replace p1 := HP.out.c1; replace p2 := HP.out.c2; replace HS := Lib.hid (HS.out.below hbu); replace HL := Lib.hid (HL.out.below hbu)))
        have HX := Lib.hid hX
        clear he hX hgt hgt' hDt htp htl hle hTS HTS hbu
        go_wp2_with fail
        refine (same_at XA SA sec _ _ xc sc _ HX.out.nats HS.out.nats (by omega) rfl rfl).mono ?_
        rintro e wx2 ⟨rfl, rfl⟩
        go_wp2_with fail
        refine ret_below (awake8 _ (hE.bases HB.out)) ?_
        intro wz2 hbz2
        go_wp2_with fail
        go_ret
        exact RetB.bool rfl (hE.mv hbz2).below
  · have hL := light_any A0 L0.length c0 w
    rw [decide_eq_false hlight] at hL
    have HLt := Lib.hid hL
    clear hL
    go_enter Tryd.func3, Tryd.ntmps3
    go_wp2_with fail
    refine ret_pure HLt.out ?_
    go_wp2_with fail
    refine ret_below (awake8 _ HB.out) ?_
    intro w1 hb1
    go_wp2_with fail
    go_ret
    exact RetB.bool rfl hb1
end Go.Proofs.YtlhipgejiacklaaDoor
namespace Go.Proofs.YtlhipgejiacklaaDoor
open Go.RowKit

theorem cell_block_lt {w : World} {a : Addr} {v : Value} (h : w.cell? a = some v) : a.block < w.heap.size := by
  rcases Nat.lt_or_ge a.block w.heap.size with hlt | hge
  · exact hlt
  · unfold World.cell? at h; simp [Array.getElem?_eq_none hge] at h
theorem open_row {W : World} {x : Addr} {len cap : Nat} {zs : List Int} (hl : len ≤ cap) (hm : cap ≤ maxLen) (hz : zs.length = cap) (hcell : ∀ i, i < zs.length → W.cell? (x.add i) = some (.int .i64 (zs.getD i 0)))
    (hb : ∀ n ∈ zs, -9223372036854775808 ≤ n ∧ n ≤ 9223372036854775807) :
    ∃ ys : List Int, ys.length = len ∧ ys.length ≤ maxLen ∧ IntsAt W (some x) ys ∧ ∀ n ∈ ys, -9223372036854775808 ≤ n ∧ n ≤ 9223372036854775807 := by
  refine ⟨zs.take len, by simp; omega, by simp; omega, fun k hk => ?_, fun n hn => hb n (List.mem_of_mem_take hn)⟩
  have hk' : k < len := by simpa using Nat.lt_of_lt_of_le hk (List.length_take_le _ _)
  have h0 := hcell 0 (by omega)
  have hk0 := hcell k (by omega)
  obtain ⟨b, off, spot⟩ := x
  have hs : spot = none := by simpa [Addr.add] using World.cell?_spot h0
  subst hs
  have hlt := cell_block_lt hk0
  refine ⟨b, off, rfl, ?_, ?_⟩
  · unfold Addr.add at hlt; split at hlt <;> exact hlt
  · have e : (⟨b, off, none⟩ : Addr).add k = ⟨b, off + k, none⟩ := by
      unfold Addr.add; split
      · rename_i h; subst h; rfl
      · rfl
    rw [← e, hk0, nth_eq hk]
    simp [List.getD_eq_getElem?_getD, show k < zs.length by omega]
end Go.Proofs.YtlhipgejiacklaaDoor
