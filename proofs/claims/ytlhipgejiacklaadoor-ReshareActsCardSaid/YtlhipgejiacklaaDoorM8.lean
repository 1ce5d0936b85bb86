/-
  Refresh: what the functions say of lists that all holders have; the sanity check.
  Refresh: sums of zeros; the order of sums.
  Lists of lists under way.
  Reshare: plans, givers, parts that fit, Split.
  Reshare: parts that fit; Split.
  Reshare: the parts fit; Split.
  Reshare: Join.
  Reshare: the plain law: what is joined are shares of the same secret.
  Reshare: lists of shares, one for each new holder, to which shares are appended in turn.
  Reshare: Check, lists of random numbers, Move's pieces.
  Conditions: those that each theorem names.
-/
import Derived.Test.YtlhipgejiacklaaDoorM7
set_option linter.unusedVariables false
set_option linter.unusedSimpArgs false
namespace Go.Proofs.YtlhipgejiacklaaDoor
open Go.RowKit

theorem Full.gd {p n h : Nat} {a : List Nat} {N : List ShN} (H : Full p n h a N) (hp : 1 ≤ p) (hm : a.length ≤ 2048) : gdB p h (shL N) = true := (gdB_yes (gd_back (H.made.good hp hm))).symm
theorem Full.short {p n h : Nat} {a : List Nat} {N : List ShN} (H : Full p n h a N) (hm : a.length ≤ 1048576) : Short (shL N) := H.made.short hm
theorem ap_full {p n h : Nat} {a b : List Nat} {N M : List ShN} (P : PlanN p n h) (H : Full p n h a N) (K : Full p n h b M) (hab : a.length = b.length) (hm : a.length ≤ 2048) :
    aE p h (shL N) (shL M) = 0 ∧ aT p h (shL N) (shL M) = plusT p N M := by
  have hl : M.length = N.length := K.len.trans H.len.symm
  have gM := K.made.good P.p1 (by omega)
  have hix : ∀ k, k < N.length → hasH M (hN N k) = true ∧ apI M (hN N k) = k := fun k hk => by
    have := apI_of gM (show k < M.length by omega)
    rw [K.ord k (by omega), ← H.ord k hk] at this; exact this
  have hok : apOk N M = true := by
    unfold apOk anyN
    rw [Bool.not_eq_true', List.any_eq_false]
    intro k hk
    simp [(hix k (List.mem_range.1 hk)).1]
  have hq : N.length = 0 ∨ (vN N 0).length = (vN M 0).length := by
    rcases Nat.eq_zero_or_pos N.length with h0 | h0
    · exact .inl h0
    · exact .inr (by rw [H.made.vlen h0, K.made.vlen (by omega), hab])
  have he : apE N M = 0 := by unfold apE; rw [if_pos hok, if_pos hq]
  have hE : aE p h (shL N) (shL M) = 0 := by unfold aE; rw [H.gd P.p1 hm, K.gd P.p1 (by omega), natL_shL, natL_shL]; exact he
  refine ⟨hE, ?_⟩
  unfold aT
  rw [if_pos hE, natL_shL, natL_shL]
  unfold apT plusT
  refine List.map_congr_left fun k hk => ?_
  rw [(hix k (List.mem_range.1 hk)).2]
theorem apply_full {P P' : Nat → Prop} {p n h : Nat} {a b : List Nat} {N M : List ShN} (PN : PlanN p n h) (H : Full p n h a N) (K : Full p n h b M) (hab : a.length = b.length) (hm : a.length ≤ 2048) (A B : Option Addr) (ca cb : Nat) (w : World) (hB : Bases w) (hA : ShP P w A ca (shL N)) (hM : ShP P' w B cb (shL M)) :
    Calls Tryd.prog 25 #[planV p n h, .slice A h ca, .slice B h cb] w (DealR (plusT p N M) h w) := by
  have := apply_any p n h A B ca cb h h (shL N) (shL M) w PN hB hA hM (H.short (by omega)) (K.short (by omega)) (by rw [shL_len, H.len]) (by rw [shL_len, K.len]) (by rw [shL_len, H.len]; have := PN.h7; omega) (by rw [shL_len, K.len]; have := PN.h7; omega)
  obtain ⟨e1, e2⟩ := ap_full PN H K hab hm
  rw [e1, e2] at this
  refine this.mono ?_
  rintro e w' ⟨A', c', rfl, h1, h2⟩
  exact ⟨A', c', by rw [shL_len, plusT_len, H.len], h1, h2⟩
theorem checks_full {P : Nat → Prop} {p n h : Nat} {b : List Nat} {M : List ShN} (PN : PlanN p n h) (K : Full p n h b M) (hm : b.length ≤ 2048) (B : Option Addr) (cb : Nat) (w : World) (hB : Bases w) (hM : ShP P w B cb (shL M)) :
    Calls Tryd.prog 23 #[planV p n h, .slice B h cb] w (RetB (.bool (b.all fun x => x == 0)) w) := by
  have := checks_any p n h B cb (shL M) w PN.pv hB hM (K.short (by omega)) (by rw [shL_len, K.len]; have := PN.h7; omega)
  obtain ⟨e1, e2⟩ := K.made.cm PN hm (by rw [K.len]; exact PN.nh)
  rw [← ckB_all (K.made.ft PN hm) (by rw [shL_len, K.len]) (ordB_yes (fun k hk => by rw [shL_len] at hk; rw [hS_shL hk, K.ord k hk]; push_cast; rfl)) e1, e2, shL_len, K.len] at this
  exact this
theorem refCombine_made {P : Nat → Prop} {p n h : Nat} {sec : List Nat} {N : List ShN} (H : Made p n h sec N) (PN : PlanN p n h) (A : Option Addr) (c k : Nat) (w : World) (hS : ShP P w A c (shL N)) (hm : sec.length ≤ 2048) (hl : N.length ≤ 1048576) (hk : k = N.length) (hn : n ≤ N.length) :
    Calls Tryd.prog 27 #[planV p n h, .slice A k c] w (ListErr sec 0 w) := by
  have h1 := H.cm PN hm hn
  have := refCombine_any p n h A c (shL N) w PN.pv hS (H.short (by omega)) (by rw [shL_len]; exact hl)
  rw [h1.1, h1.2, shL_len, ← hk] at this
  exact this
theorem refFits_made {P : Nat → Prop} {p n h : Nat} {sec : List Nat} {N : List ShN} (H : Made p n h sec N) (PN : PlanN p n h) (A : Option Addr) (c k : Nat) (w : World) (hS : ShP P w A c (shL N)) (hm : sec.length ≤ 2048) (hl : N.length ≤ 1048576) (hk : k = N.length) :
    Calls Tryd.prog 26 #[planV p n h, .slice A k c] w (RetB (.bool true) w) := by
  have h1 := H.ft PN hm
  have := refFits_any p n h A c (shL N) w PN.pv hS (H.short (by omega)) (by rw [shL_len]; exact hl)
  rw [h1, shL_len, ← hk] at this
  exact this
theorem plan_732 : PlanN 7 2 3 := PlanN.mk' prime_7 (by omega) (by omega) (by omega) (by omega) (by omega)
def zaN : List ShN := dealN 7 2 3 (List.replicate 1 0) [2]
def laN : List ShN := dealN 7 2 3 [3] [1]
theorem za_full : Full 7 2 3 (List.replicate 1 0) zaN := Full.deal plan_732 (by simp) (by simp)
theorem la_full : Full 7 2 3 [3] laN := Full.deal plan_732 (by simp) (by simp)
theorem lz_full : Full 7 2 3 [3] (plusT 7 laN zaN) := by
  have := la_full.plus plan_732 za_full (by simp)
  rw [show linN 7 [3] (List.replicate 1 0) 1 = [3] from by decide +kernel] at this
  exact this
set_option maxRecDepth 100000 in
set_option maxHeartbeats 4000000 in
theorem awake8 (w : World) (hB : Bases w) : Calls Tryd.prog 14 #[] w (RetB (.bool true) w) := by
  have HB := Lib.hid hB
  have HZ := Lib.hid (fun (W : World) (B : Option Addr) (h1 : Below w.heap.size w W) (h2 : NatsAt W B [2]) (h3 : SlOK B 1 [2]) => show Calls Tryd.prog 20 #[planV 7 2 3, .int .i64 1, .slice B 1 1] W (DealR zaN 3 W) from
    zero_made 7 2 3 1 1 plan_732 (by omega) B 1 [2] W (hB.below h1 hB.1) h2 h3 (by simp) (by simp) (by simp) (by simp))
  have HD := Lib.hid (fun (W : World) (A B : Option Addr) (h1 : NatsAt W A [3]) (h2 : NatsAt W B [1]) (h3 : SlOK B 1 [1]) => show Calls Tryd.prog 31 #[planV 7 2 3, .slice A 1 1, .slice B 1 1] W (DealR laN 3 W) from
    refDeal_made plan_732 h1 h2 h3 (by simp) (by simp) (by simp) (by simp) (by simp) (by simp) (by simp))
  have HAP := Lib.hid (fun (W : World) (h0 : Below w.heap.size w W) (A B : Option Addr) (ca cb : Nat) (P P' : Nat → Prop) (h1 : ShP P W A ca (shL laN)) (h2 : ShP P' W B cb (shL zaN)) => show Calls Tryd.prog 25 #[planV 7 2 3, .slice A 3 ca, .slice B 3 cb] W (DealR (plusT 7 laN zaN) 3 W) from
    apply_full plan_732 la_full za_full (by simp) (by simp) A B ca cb W (hB.below h0 hB.1) h1 h2)
  have HCO := Lib.hid (fun (W : World) (A : Option Addr) (ca : Nat) (P : Nat → Prop) (h1 : ShP P W A ca (shL (plusT 7 laN zaN))) => show Calls Tryd.prog 27 #[planV 7 2 3, .slice A 3 ca] W (ListErr [3] 0 W) from
    refCombine_made lz_full.made plan_732 A ca 3 W h1 (by simp) (by rw [lz_full.len]; omega) lz_full.len.symm (by rw [lz_full.len]; omega))
  have HCK := Lib.hid (fun (W : World) (h0 : Below w.heap.size w W) (B : Option Addr) (cb : Nat) (P : Nat → Prop) (h1 : ShP P W B cb (shL zaN)) => show Calls Tryd.prog 23 #[planV 7 2 3, .slice B 3 cb] W (RetB (.bool true) W) from by
    have := checks_full plan_732 za_full (by simp) B cb W (hB.below h0 hB.1) h1
    exact this)
  clear hB
  go_enter Tryd.func14, Tryd.ntmps14
  go_wp2_with fail
  refine gen_calls fun w1 hw1 => ?_
  have hpc1 : PlanCell w1 w.heap.size 7 2 3 := by rw [hw1]; exact (PlanCell.new _ _ _ rfl).alloc _
  have hnb : NatBlk w1 (w.heap.size + 1) [2] := by rw [hw1]; exact lit1_at _ _ _ (by simp)
  have hb1 : Below w.heap.size w w1 := by rw [hw1]; exact bl_alloc _ (below_alloc _ _)
  clear hw1
  refine (HZ.out _ _ hb1 hnb.nats (SlOK.own hnb (by unfold maxLen; simp))).mono ?_
  rintro e w2 ⟨ZA, zc, rfl, hZ, hb2⟩
  have hpc2 := hpc1.below hb2
  have hbw2 := below_trans hb1 hb2
  have hz2 := hbw2.size
  have p0 := hpc2.c0
  have p1 := hpc2.c1
  have p2 := hpc2.c2
  have HZZ := Lib.hid hZ
  clear hpc1 hnb hb1 hb2 hZ
  go_wp2_with fail
  refine gen_calls fun w3 hw3 => ?_
  have hb3 : Below w2.heap.size w2 w3 := by rw [hw3]; exact bl_alloc _ (below_alloc _ _)
  have hn3 : NatBlk w3 w2.heap.size [3] := by rw [hw3]; exact (lit1_nats w2 3).below (below_alloc _ _)
  have hn1 : NatBlk w3 (w2.heap.size + 1) [1] := by rw [hw3]; exact lit1_at _ _ _ (by simp)
  clear hw3
  refine (HD.out _ _ _ hn3.nats hn1.nats (SlOK.own hn1 (by unfold maxLen; simp))).mono ?_
  rintro e w4 ⟨LA, lc, rfl, hL, hb4⟩
  have hb24 := below_trans hb3 hb4
  have hpc4 := hpc2.below hb24
  have hbw4 := below_trans hbw2 hb24
  have q0 := hpc4.c0
  have q1 := hpc4.c1
  have q2 := hpc4.c2
  have HZ4 := Lib.hid (HZZ.out.below hb24)
  have HL4 := Lib.hid hL
  clear hpc2 hn3 hn1 hb3 hb4 hL p0 p1 p2 hb24
  go_wp2_with fail
  refine (HAP.out _ hbw4 _ _ _ _ _ _ HL4.out HZ4.out).mono ?_
  rintro e w5 ⟨MA, mc, rfl, hM, hb5⟩
  have hpc5 := hpc4.below hb5
  have hbw5 := below_trans hbw4 hb5
  have r0 := hpc5.c0
  have r1 := hpc5.c1
  have r2 := hpc5.c2
  have HZ5 := Lib.hid (HZ4.out.below hb5)
  have HM5 := Lib.hid hM
  clear hpc4 hb5 hM q0 q1 q2 HL4
  go_wp2_with fail
  refine (HCO.out _ _ _ _ HM5.out).mono ?_
  rintro e w6 ⟨XA, xc, rfl, hX, -, -, hb6⟩
  have hpc6 := hpc5.below hb6
  have hbw6 := below_trans hbw5 hb6
  have s0 := hpc6.c0
  have s1 := hpc6.c1
  have s2 := hpc6.c2
  have HZ6 := Lib.hid (HZ5.out.below hb6)
  obtain ⟨xb, xo, rfl, hxl, x0⟩ := hX 0 (by simp)
  simp [nthN] at x0
  clear hpc5 hb6 hX r0 r1 r2 HM5
  go_wp2_with fail
  refine ret_below (HCK.out _ hbw6 _ _ _ HZ6.out) fun w7 hb7 => ?_
  have x7 := (hb7.cell (p := ⟨xb, xo, none⟩) hxl).trans x0
  clear x0 s0 s1 s2
  go_wp2_with fail
  go_ret
  exact RetB.bool rfl (below_trans hbw6 hb7)
end Go.Proofs.YtlhipgejiacklaaDoor
namespace Go.Proofs.YtlhipgejiacklaaDoor
open Go.RowKit

theorem lin_zeros {p m : Nat} (hp : 1 ≤ p) : linN p (List.replicate m 0) (List.replicate m 0) 1 = List.replicate m 0 := by
  have := lin_zero (p := p) (a := List.replicate m 0) (fun x hx => by rw [(List.mem_replicate.1 hx).2]; omega)
  rw [List.length_replicate] at this; exact this
theorem Full.plus0 {p n h m : Nat} {N M : List ShN} (P : PlanN p n h) (H : Full p n h (List.replicate m 0) N) (K : Full p n h (List.replicate m 0) M) : Full p n h (List.replicate m 0) (plusT p N M) := by
  have := H.plus P K rfl
  rw [lin_zeros P.p1] at this; exact this
theorem Full.plusZ {p n h : Nat} {a : List Nat} {N M : List ShN} (P : PlanN p n h) (H : Full p n h a N) (K : Full p n h (List.replicate a.length 0) M) (ha : ∀ x ∈ a, x < p) : Full p n h a (plusT p N M) := by
  have := H.plus P K (by rw [List.length_replicate])
  rw [lin_zero ha] at this; exact this
/-- The sum of several lists of zeros. -/
def sumN (p : Nat) : List ShN → List (List ShN) → List ShN
  | N, [] => N
  | N, M :: r => sumN p (plusT p N M) r
theorem sum_zeros {p n h m : Nat} (P : PlanN p n h) (hm : m ≤ 2048) : ∀ (Ms : List (List ShN)) (N : List ShN), Full p n h (List.replicate m 0) N → (∀ M ∈ Ms, Full p n h (List.replicate m 0) M) →
    sumR p h (shL N) (Ms.map shL) = (shL (sumN p N Ms), 0) ∧ Full p n h (List.replicate m 0) (sumN p N Ms)
  | [], N, H, _ => ⟨rfl, H⟩
  | M :: r, N, H, K => by
    have hM := K M (by simp)
    obtain ⟨e1, e2⟩ := ap_full P H hM rfl (by rw [List.length_replicate]; exact hm)
    have ih := sum_zeros P hm r (plusT p N M) (H.plus0 P hM) (fun X hX => K X (by simp [hX]))
    simp only [List.map_cons, sumR, sumN]
    rw [if_pos e1, e2]
    exact ih
theorem su_zeros {p n h m : Nat} (P : PlanN p n h) (hm : m ≤ 2048) (N : List ShN) (Ms : List (List ShN)) (H : Full p n h (List.replicate m 0) N) (K : ∀ M ∈ Ms, Full p n h (List.replicate m 0) M) :
    suE p h ((N :: Ms).map shL) = 0 ∧ suL p h ((N :: Ms).map shL) = shL (sumN p N Ms) ∧ Full p n h (List.replicate m 0) (sumN p N Ms) := by
  obtain ⟨e1, e2⟩ := sum_zeros P hm Ms N H K
  have hg : gdB p h (lsAt ((N :: Ms).map shL) 0) = true := H.gd P.p1 (by rw [List.length_replicate]; exact hm)
  refine ⟨?_, ?_, e2⟩
  · unfold suE; rw [if_neg (by simp), if_pos hg]
    show (sumR p h (shL N) (Ms.map shL)).2 = 0
    rw [e1]
  · unfold suL; rw [if_neg (by simp), if_pos hg]
    show (sumR p h (shL N) (Ms.map shL)).1 = _
    rw [e1]
theorem sum_full {P : Nat → Prop} {p n h m : Nat} (PN : PlanN p n h) (hm : m ≤ 2048) (N : List ShN) (Ms : List (List ShN)) (H : Full p n h (List.replicate m 0) N) (K : ∀ M ∈ Ms, Full p n h (List.replicate m 0) M) (A : Option Addr) (c kL : Nat) (w : World) (hB : Bases w)
    (hA : ListsP P w A c ((N :: Ms).map shL)) (hk : kL = Ms.length + 1) (hl : Ms.length ≤ 1000) :
    Calls Tryd.prog 24 #[planV p n h, .slice A kL c] w (DealR (sumN p N Ms) h w) := by
  obtain ⟨e1, e2, e3⟩ := su_zeros PN hm N Ms H K
  have hsh : ShortLs ((N :: Ms).map shL) := fun k hk => by
    have hk' : k < (N :: Ms).length := by simpa using hk
    have hF : Full p n h (List.replicate m 0) ((N :: Ms)[k]) := by
      have := List.getElem_mem hk'
      rcases List.mem_cons.1 this with h0 | h0
      · rw [h0]; exact H
      · exact K _ h0
    have : lsAt ((N :: Ms).map shL) k = shL ((N :: Ms)[k]) := by
      unfold lsAt
      rw [List.getD_eq_getElem?_getD, List.getElem?_map, List.getElem?_eq_getElem hk']; rfl
    rw [this]
    exact ⟨hF.short (by rw [List.length_replicate]; omega), by rw [shL_len, hF.len]; have := PN.h7; omega⟩
  have := sum_any p n h A c kL ((N :: Ms).map shL) w PN hB hA hsh (by simp [hk]) (by simp; omega)
  rw [e1, e2] at this
  refine this.mono ?_
  rintro e w' ⟨A', c', rfl, h1, h2⟩
  exact ⟨A', c', by rw [shL_len, e3.len], h1, h2⟩
/-- Two lists in a literal. -/
theorem lists_two {P : Nat → Prop} {w : World} {g h : Nat} {A B : Option Addr} {ca cb : Nat} {N M : List ShN} (hg : w.heap[g]? = some (.cells #[.slice A h ca, .slice B h cb] 31 (0, 0))) (hP : P g) (hA : ShP P w A ca (shL N)) (hB : ShP P w B cb (shL M)) (hN : N.length = h) (hM : M.length = h) :
    ListsP P w (some ⟨g, 0, none⟩) 2 (([N, M]).map shL) := by
  refine ⟨fun k hk => ?_, ⟨Nat.le_refl _, by unfold maxLen; omega, (fun e => by cases e), .inr (fun a e => by injection e with e; subst e; rfl)⟩⟩
  have hk : k = 0 ∨ k = 1 := by simp at hk; omega
  rcases hk with rfl | rfl
  · exact ⟨g, 0, A, ca, rfl, blk_lt hg, hP, by rw [cell_of_row w g _ _ _ (0, 0) hg]; show some _ = some (Value.slice A (shL N).length ca); rw [shL_len, hN]; rfl, hA⟩
  · exact ⟨g, 0, B, cb, rfl, blk_lt hg, hP, by rw [cell_of_row w g _ _ _ (0, 0) hg]; show some _ = some (Value.slice B (shL M).length cb); rw [shL_len, hM]; rfl, hB⟩
theorem fadd_swap (p l a b : Nat) : fadd p l (fmul p 1 (fadd p a (fmul p 1 b))) = fadd p (fadd p l (fmul p 1 b)) (fmul p 1 a) := by
  unfold fadd fmul
  simp only [Nat.one_mul, Nat.add_mod_mod, Nat.mod_add_mod, Nat.mod_mod]
  congr 1; omega
theorem lin_swap {p : Nat} {L A B : List Nat} (h1 : A.length = L.length) (h2 : B.length = L.length) : linN p L (linN p A B 1) 1 = linN p (linN p L B 1) A 1 := by
  refine extN (by simp only [linN_len]; omega) fun i hi => ?_
  have hi' : i < L.length := by simp only [linN_len] at hi; omega
  rw [linN_nth (by simp only [linN_len]; omega), linN_nth (by omega), linN_nth (by simp only [linN_len]; omega), linN_nth (by omega)]
  exact fadd_swap _ _ _ _
theorem plus_swap {p n h : Nat} {s a b : List Nat} {N Z Y : List ShN} (H : Full p n h s N) (K : Full p n h a Z) (J : Full p n h b Y) (h1 : a.length = s.length) (h2 : b.length = s.length) : plusT p N (plusT p Z Y) = plusT p (plusT p N Y) Z := by
  refine shl_ext (by rw [plusT_len, plusT_len, plusT_len]) fun k hk => ?_
  rw [plusT_len] at hk
  have hkZ : k < Z.length := by rw [K.len, ← H.len]; exact hk
  have hkY : k < Y.length := by rw [J.len, ← H.len]; exact hk
  rw [(plusT_at hk).1, (plusT_at hk).2, (plusT_at (show k < (plusT p N Y).length by rw [plusT_len]; exact hk)).1, (plusT_at (show k < (plusT p N Y).length by rw [plusT_len]; exact hk)).2, (plusT_at hk).1, (plusT_at hk).2, (plusT_at hkZ).2]
  exact ⟨rfl, lin_swap (by rw [K.made.vlen hkZ, H.made.vlen hk, h1]) (by rw [J.made.vlen hkY, H.made.vlen hk, h2])⟩
end Go.Proofs.YtlhipgejiacklaaDoor
namespace Go.Proofs.YtlhipgejiacklaaDoor
open Go.RowKit

theorem info_shares : (Tryd.prog.info? 31).map (fun i => (i.zero, i.size, i.bytes)) = some (some (.slice none 0 0), 1, 24) := by kernel_rfl
theorem info_ints : (Tryd.prog.info? 22).map (fun i => (i.zero, i.size, i.bytes)) = some (some (.slice none 0 0), 1, 24) := by kernel_rfl
/-- What is said of a value in memory of which only the blocks that satisfy P count. -/
structure PhiOK {α : Type} (Φ : (Nat → Prop) → World → Value → α → Prop) : Prop where
  keep : ∀ {P : Nat → Prop} {w w' : World} {v : Value} {x : α}, Φ P w v x → Kept P w w' → Φ P w' v x
  mono : ∀ {P Q : Nat → Prop} {w : World} {v : Value} {x : α}, Φ P w v x → (∀ b, b < w.heap.size → P b → Q b) → Φ Q w v x
def PhiS (P : Nat → Prop) (w : World) (v : Value) (S : List Shr) : Prop := ∃ B c, v = .slice B S.length c ∧ ShP P w B c S
theorem phiS : PhiOK PhiS := ⟨fun ⟨B, c, e, h⟩ hk => ⟨B, c, e, h.keep hk⟩, fun ⟨B, c, e, h⟩ hq => ⟨B, c, e, h.mono hq⟩⟩
def PhiN (P : Nat → Prop) (w : World) (v : Value) (L : List Nat) : Prop := ∃ B c, v = .slice B L.length c ∧ IntsP P w B c (ofN L)
theorem phiN : PhiOK PhiN := ⟨fun ⟨B, c, e, h⟩ hk => ⟨B, c, e, h.keep hk⟩, fun ⟨B, c, e, h⟩ hq => ⟨B, c, e, h.mono hq⟩⟩
structure RowsG {α : Type} (Φ : (Nat → Prop) → World → Value → α → Prop) (e : TypeId) (Q : Nat → Prop) (w : World) (base : Nat) (v : Value) (xs : List α) : Prop where
  ex : ∃ Vs : List Value, w.ownsRow base e 1 v Vs.length Vs ∧ Vs.length = xs.length ∧ ∀ k (h : k < xs.length), ∃ u, Vs[k]? = some u ∧ Φ (fun b => Q b ∧ v.ownBlock ≠ some b) w u xs[k]
theorem RowsG.nil {α : Type} (Φ : (Nat → Prop) → World → Value → α → Prop) (e : TypeId) (Q : Nat → Prop) (w : World) (base : Nat) : RowsG Φ e Q w base (.slice none 0 0) [] :=
  ⟨[], World.ownsRow_nil _ _ _ _, rfl, fun k h => absurd h (by simp)⟩
theorem RowsG.kept {α : Type} {Φ : (Nat → Prop) → World → Value → α → Prop} {e : TypeId} {Q : Nat → Prop} {w w' : World} {base : Nat} {v : Value} {xs : List α} {row : Option Nat} (h : RowsG Φ e Q w base v xs) (hΦ : PhiOK Φ) (hg : w.grownBy w' row) (h1 : v.ownBlock = none ∨ v.ownBlock ≠ row) (h2 : ∀ b, Q b → row ≠ some b) : RowsG Φ e Q w' base v xs := by
  obtain ⟨Vs, e1, e2, e3⟩ := h.ex
  refine ⟨Vs, World.ownsRow.kept e1 hg h1, e2, fun k hk => ?_⟩
  obtain ⟨u, f1, f2⟩ := e3 k hk
  exact ⟨u, f1, hΦ.keep f2 ⟨hg.size, fun b hb hlt => hg.block b hlt (fun e => h2 b hb.1 e.symm)⟩⟩
theorem RowsG.below {α : Type} {Φ : (Nat → Prop) → World → Value → α → Prop} {e : TypeId} {Q : Nat → Prop} {w w' : World} {base : Nat} {v : Value} {xs : List α} (h : RowsG Φ e Q w base v xs) (hΦ : PhiOK Φ) (hb : Below w.heap.size w w') : RowsG Φ e Q w' base v xs := by
  obtain ⟨Vs, e1, e2, e3⟩ := h.ex
  refine ⟨Vs, own_below e1 hb, e2, fun k hk => ?_⟩
  obtain ⟨u, f1, f2⟩ := e3 k hk
  exact ⟨u, f1, hΦ.keep f2 (Kept.below hb)⟩
theorem RowsG.mv {α : Type} {Φ : (Nat → Prop) → World → Value → α → Prop} {e : TypeId} {Q : Nat → Prop} {w w' : World} {base D : Nat} {v : Value} {xs : List α} (h : RowsG Φ e Q w base v xs) (hΦ : PhiOK Φ) (hg : w.grownBy w' (some D)) (hD : D < base) (hQ : ∀ b, Q b → b ≠ D) : RowsG Φ e Q w' base v xs := by
  obtain ⟨Vs, e1, e2, e3⟩ := h.ex
  refine RowsG.kept ⟨Vs, e1, e2, e3⟩ hΦ hg ?_ (fun b hb e => hQ b hb (Option.some.inj e).symm)
  rcases hv : v.ownBlock with _ | b
  · exact .inl rfl
  · exact .inr (fun e => by injection e with e; have := (World.ownsRow.lt e1 b hv).1; omega)
/-- One more, that was made behind base, and lies not in the row. -/
theorem RowsG.more {α : Type} {Φ : (Nat → Prop) → World → Value → α → Prop} {e : TypeId} {w w' : World} {base : Nat} {v v' u : Value} {xs : List α} {x : α} {Vs : List Value} (hΦ : PhiOK Φ)
    (e2 : Vs.length = xs.length) (e3 : ∀ k (h : k < xs.length), ∃ u, Vs[k]? = some u ∧ Φ (fun b => base ≤ b ∧ v.ownBlock ≠ some b) w u xs[k])
    (hu : Φ (fun b => base ≤ b ∧ v.ownBlock ≠ some b) w u x) (hown : w'.ownsRow base e 1 v' (Vs.length + 1) (Vs ++ [u])) (hg : w.grownBy w' v.ownBlock) (hv : ∀ b, v'.ownBlock = some b → v.ownBlock = some b ∨ w.heap.size ≤ b) : RowsG Φ e (fun b => base ≤ b) w' base v' (xs ++ [x]) := by
  have key : ∀ {y : α} {t : Value}, Φ (fun b => base ≤ b ∧ v.ownBlock ≠ some b) w t y → Φ (fun b => base ≤ b ∧ v'.ownBlock ≠ some b) w' t y := fun hI =>
    hΦ.mono (hΦ.keep (hΦ.mono (Q := fun b => (base ≤ b ∧ v'.ownBlock ≠ some b) ∧ v.ownBlock ≠ some b) hI (fun b hlt hb => ⟨⟨hb.1, fun e => by
      rcases hv b e with h | h
      · exact hb.2 h
      · omega⟩, hb.2⟩)) ⟨hg.size, fun b hb hlt => hg.block b hlt (fun e => hb.2 e.symm)⟩) (fun b _ hb => hb.1)
  refine ⟨Vs ++ [u], by rw [List.length_append]; exact hown, by simp [e2], fun k hk => ?_⟩
  rcases Nat.lt_or_ge k xs.length with h | h
  · obtain ⟨t, f1, f2⟩ := e3 k h
    refine ⟨t, by rw [List.getElem?_append_left (by omega)]; exact f1, ?_⟩
    rw [List.getElem_append_left h]; exact key f2
  · obtain rfl : k = xs.length := by simp at hk; omega
    refine ⟨u, by rw [← e2]; simp, ?_⟩
    rw [List.getElem_append_right (by omega)]
    simpa using key hu
theorem RowsG.read {α : Type} {Φ : (Nat → Prop) → World → Value → α → Prop} {e : TypeId} {Q : Nat → Prop} {w : World} {base : Nat} {v : Value} {xs : List α} (h : RowsG Φ e Q w base v xs) (hΦ : PhiOK Φ) :
    ∃ A c, v = .slice A xs.length c ∧ IOK A c xs.length ∧ ∀ k (h : k < xs.length), ∃ b off u, A = some ⟨b, off, none⟩ ∧ b < w.heap.size ∧ base ≤ b ∧ w.cell? ⟨b, off + k, none⟩ = some u ∧ Φ Q w u xs[k] := by
  obtain ⟨Vs, e1, e2, e3⟩ := h.ex
  rcases e1.2 with ⟨rfl, h0⟩ | ⟨g, cap, cur, rfl, hg, hh, hnc, hcm, hcs, htk⟩
  · have : xs = [] := List.eq_nil_of_length_eq_zero (by omega)
    subst this
    exact ⟨none, 0, rfl, IOK.none0, fun k hk => absurd hk (by simp)⟩
  · refine ⟨some ⟨g, 0, none⟩, cap, by rw [e2], ⟨by rw [← e2]; exact hnc, hcm, (fun e => by cases e), .inr (fun a e => by injection e with e; subst e; rfl)⟩, fun k hk => ?_⟩
    obtain ⟨u, f1, f2⟩ := e3 k hk
    refine ⟨g, 0, u, rfl, blk_lt hh, hg, ?_, hΦ.mono f2 (fun b _ hb => hb.1)⟩
    have := World.ownsRow.cellAt e1 (j := k) (by omega)
    rw [Nat.zero_add, this, f1]
theorem RowsG.lists {e : TypeId} {Q : Nat → Prop} {w : World} {base : Nat} {v : Value} {Ns : List (List ShN)} (h : RowsG PhiS e Q w base v (Ns.map shL)) : ∃ A c, v = .slice A Ns.length c ∧ ListsP (fun b => base ≤ b ∨ Q b) w A c (Ns.map shL) := by
  obtain ⟨A, c, rfl, h1, h2⟩ := h.read phiS
  refine ⟨A, c, by rw [List.length_map], ⟨fun k hk => ?_, h1⟩⟩
  obtain ⟨b, off, u, hA, hb, hbs, hc, B, c', rfl, hS⟩ := h2 k hk
  have : lsAt (Ns.map shL) k = (Ns.map shL)[k] := by
    have hk' : k < Ns.length := by simpa using hk
    unfold lsAt; simp [List.getD_eq_getElem?_getD, hk']
  rw [this]
  exact ⟨b, off, B, c', hA, hb, .inl hbs, hc, hS.mono (fun b _ hb => .inr hb)⟩
theorem RowsG.lt1 {α : Type} {Φ : (Nat → Prop) → World → Value → α → Prop} {e : TypeId} {Q : Nat → Prop} {w : World} {base : Nat} {v : Value} {xs : List α} (h : RowsG Φ e Q w base v xs) : ∀ b, v.ownBlock = some b → b < w.heap.size := fun b hb => by
  obtain ⟨Vs, e1, -, -⟩ := h.ex
  exact (World.ownsRow.lt e1 b hb).2
/-- append of one value that fills one cell. -/
theorem app_val {ops : Array Oper} {rest : List Oper} {o : Oper} {a : Act} {Q : Exit → Act → World → Prop} (hgd : o.guard = none) (s x : Operand) (t : TypeId)
    (ho : o.op = .call { callee := .builtin .append, args := #[s, x], argTypes := #[t, t] })
    {base : Nat} {e : TypeId} {z : Value} {bytes : Nat} (ht : Tryd.prog.underlying t = some (.slice e)) (hinfo : (Tryd.prog.info? e).map (fun i => (i.zero, i.size, i.bytes)) = some (some z, 1, bytes)) (hzs : z.cells.size = 1)
    {w : World} {v : Value} {Vs : List Value} {u : Value} (hs : a.eval s = v) (hown : w.ownsRow base e 1 v Vs.length Vs)
    (hx : a.eval x = .slice (some ⟨w.heap.size, 0, none⟩) 1 1) (h1 : u.oneCell' = true) (hl : Vs.length ≤ 1048576) (hb24 : bytes ≤ 32) (hb8 : 0 < bytes) (hbase : base ≤ w.heap.size)
    (h : ∀ v' w', w'.ownsRow base e 1 v' (Vs.length + 1) (Vs ++ [u]) → w.grownBy w' v.ownBlock → Below base w w' → (∀ b, v'.ownBlock = some b → v.ownBlock = some b ∨ w.heap.size ≤ b) → wpList Tryd.prog ops Q rest (a.put o.dst v') w') :
    wpList Tryd.prog ops Q (o :: rest) a (w.alloc (.cells #[u] e)) := by
  obtain ⟨i0, hi, hz0, hz1, hz2⟩ := info_parts hinfo
  have hbb : (Vs.length + 1) * bytes ≤ 1048577 * 32 := Nat.mul_le_mul (by omega) hb24
  refine wpList_append_own_at _ hgd s x t ho base e i0 z 1 bytes ht hi hz0 hz1 hz2 hzs (by omega) v Vs.length Vs hs (hown.alloc _) ⟨w.heap.size, 0, none⟩ 1 1 [u] hx rfl (fun j y hj => ?_) (fun y hy => by simp at hy; subst hy; exact h1) (by unfold maxLen; omega) (by omega) (by simp; omega) ?_
  · rcases j with _ | j
    · simp at hj; subst hj
      simp [Addr.add]
    · simp at hj
  · intro v' w' h2 h3 _ h5
    have hg : w.grownBy w' v.ownBlock := ⟨h3.os, h3.tape, h3.output, Nat.le_trans (by simp) h3.size, fun k hk hne => (h3.block k (by simp; omega) hne).trans (Below.heap_alloc w _ k hk)⟩
    refine h v' w' h2 hg ((Below.refl _ _).grown hg hbase (fun k hk => (hown.lt k hk).1)) (fun b e => ?_)
    rcases h5 with h5 | h5
    · exact .inl (h5 ▸ e)
    · rw [h5] at e; injection e with e; right; rw [size_alloc] at e; omega
end Go.Proofs.YtlhipgejiacklaaDoor
namespace Go.Proofs.YtlhipgejiacklaaDoor
open Go.RowKit

set_option maxRecDepth 100000 in
set_option maxHeartbeats 1000000 in
theorem plans_made (p n h n' h' : Nat) (w : World) (P : PlanN p n h) (P' : PlanN p n' h') (hB : Bases w) : Calls Tryd.prog 70 #[planV p n h, planV p n' h'] w (RetB (.bool true) w) := by
  have HV := Lib.hid (fun (W : World) (hb : Below w.heap.size w W) => show Calls Tryd.prog 49 #[planV p n h] W (RetB (.bool true) W) from by have := valid_plan p n h W (hB.below hb hB.1); rw [P.pl] at this; exact this)
  have HV' := Lib.hid (fun (W : World) (hb : Below w.heap.size w W) => show Calls Tryd.prog 49 #[planV p n' h'] W (RetB (.bool true) W) from by have := valid_plan p n' h' W (hB.below hb hB.1); rw [P'.pl] at this; exact this)
  clear hB P P'
  go_enter Tryd.func70, Tryd.ntmps70
  go_wp2_with fail
  refine gen_calls fun w1 hw1 => ?_
  have hP : PlanCell w1 w.heap.size p n h := by rw [hw1]; exact (PlanCell.new _ _ _ rfl).alloc _
  have hQ : PlanCell w1 (w.heap.size + 1) p n' h' := by rw [hw1]; exact PlanCell.new _ _ _ (by simp)
  have hb1 : Below w.heap.size w w1 := by rw [hw1]; exact bl_alloc _ (below_alloc _ _)
  clear hw1
  refine ret_below (HV.out _ hb1) fun w2 hb2 => ?_
  have hP2 := hP.below hb2
  have hQ2 := hQ.below hb2
  have hb2w := below_trans hb1 hb2
  have q0 := hQ2.c0
  have q1 := hQ2.c1
  have q2 := hQ2.c2
  clear hP hQ hb1 hb2
  go_wp2_with fail
  refine ret_below (HV'.out _ hb2w) fun w3 hb3 => ?_
  have p0 := (hP2.below hb3).c0
  have r0 := (hQ2.below hb3).c0
  clear q0 q1 q2 hP2 hQ2
  go_wp2_with fail
  go_ret
  exact RetB.bool (by simp) (below_trans hb2w hb3)

/-! ### givers -/
def GvAt (h : Int) (L : List Int) (k : Nat) : Prop := 1 ≤ nth L k ∧ nth L k ≤ h ∧ ∀ j, j < k → nth L j ≠ nth L k
noncomputable def gvB (h : Int) (L : List Int) : Bool := @decide (∀ k, k < L.length → GvAt h L k) (Classical.propDecidable _)
theorem gvB_no {h : Int} {L : List Int} (k : Nat) (hk : k < L.length) (H : ¬ GvAt h L k) : false = gvB h L := (@decide_eq_false _ (Classical.propDecidable _) (fun g => H (g k hk))).symm
theorem gvB_yes {h : Int} {L : List Int} (H : ∀ k, k < L.length → GvAt h L k) : true = gvB h L := (@decide_eq_true _ (Classical.propDecidable _) H).symm
def asS (L : List Int) : List Shr := L.map fun x => (x, [])
theorem hS_asS {L : List Int} {k : Nat} (hk : k < L.length) : hS (asS L) k = nth L k := by simp [asS, hS, nth, List.getD_eq_getElem?_getD, hk]
set_option maxRecDepth 100000 in
set_option maxHeartbeats 4000000 in
theorem givers_any (p n h : Int) (A : Option Addr) (c : Nat) (L : List Int) (w : World) (hI : IntsAt w A L) (hh : h ≤ 16) (hl : L.length ≤ 1048576) :
    Calls Tryd.prog 74 #[planV p n h, .slice A L.length c] w (RetB (.bool (gvB h L)) w) := by
  have HI := Lib.hid hI
  clear hI
  go_enter Tryd.func74, Tryd.ntmps74
  go_wp2_with fail
  go_loopw [10] (fun i wr => ∃ k : Nat, k ≤ L.length ∧ i = .int .i64 k ∧ (∀ j, j < k → GvAt h L j) ∧ PlanCell wr w.heap.size p n h ∧ SeenAt wr (w.heap.size + 1) (seenF (asS L) k) ∧ Below w.heap.size w wr) (fun i _ => L.length - (intOf i).toNat)
  case atStart =>
    refine ⟨0, Nat.zero_le _, rfl, fun j hj => absurd hj (by omega), (PlanCell.new p n h rfl).alloc _, ⟨by simp, fun j hj => ?_, fun j => ?_⟩, below_trans (below_alloc _ _) (below_alloc _ _)⟩
    · have e := heap_alloc_new (w.alloc (.cells #[.int .i64 p, .int .i64 n, .int .i64 h] 28)) (.cells (Array.replicate 17 (.bool false)) 98)
      rw [size_alloc] at e
      have e2 := cell_of_row _ (w.heap.size + 1) j _ _ (0, 0) e
      have e3 : (Array.replicate 17 (Value.bool false))[j]? = some (.bool (seenF (asS L) 0 j)) := by simp [hj, seenF_zero]
      exact e2.trans e3
    · have e := heap_alloc_new (w.alloc (.cells #[.int .i64 p, .int .i64 n, .int .i64 h] 28)) (.cells (Array.replicate 17 (.bool false)) 98)
      rw [size_alloc] at e
      exact frozen_of_row _ (w.heap.size + 1) j _ _ e
  case round =>
    obtain ⟨k, hk, rfl, hgd, hpl, hsn, hbr⟩ := hrel
    have HG := Lib.hid hgd
    clear hgd
    by_cases hlt : k < L.length
    · obtain ⟨b, off, rfl, hb, x0⟩ := HI.out k hlt
      have x1 := (hbr.cell (p := ⟨b, off + k, none⟩) hb).trans x0
      have HNO := Lib.hid (fun hc => gvB_no (h := h) k hlt hc)
      have HX := Lib.hid (hS_asS hlt)
      have HXJ := Lib.hid (fun j (hj : j < k) => hS_asS (show j < L.length by omega))
      have HGA := Lib.hid (show GvAt h L k ↔ 1 ≤ nth L k ∧ nth L k ≤ h ∧ ∀ j, j < k → nth L j ≠ nth L k from Iff.rfl)
      have p0 := hpl.c0
      have p1 := hpl.c1
      have p2 := hpl.c2
      have HPL := Lib.hid hpl
      have HSN := Lib.hid hsn
      generalize hx : nth L k = x at *
      have HXX := Lib.hid hx
      clear x0 hx hpl hsn
      by_cases h1 : 1 ≤ x
      · by_cases h2 : x ≤ h
        · obtain ⟨m, rfl⟩ : ∃ m : Nat, x = (m : Int) := ⟨x.toNat, by omega⟩
          have hm : m < 17 := by omega
          have i1 : (0 : Int) ≤ (m : Int) := by omega
          have i2 : (m : Int) < 17 := by omega
          have s0 := HSN.out.cell m hm
          cases hsf : seenF (asS L) k m with
          | true =>
            have HV := Lib.hid (HNO.out (fun g => seenF_yes HX.out hsf (fun j hj e => (HGA.out.1 g).2.2 j hj (by rw [← HXJ.out j hj, e, HX.out]))))
            rw [hsf] at s0
            clear hsf
            go_wp2_with fail
            go_ret
            exact RetB.bool HV.out hbr
          | false =>
            have HOK := Lib.hid (HGA.out.2 ⟨h1, h2, fun j hj e => seenF_no HX.out hsf j hj (by rw [HXJ.out j hj, e, HX.out])⟩)
            have HSU := Lib.hid (funext fun i => seenF_succ (asS L) k m HX.out i)
            have hfr := HSN.out.free m
            rw [hsf] at s0
            have HZ := Lib.hid (And.intro (HSN.out.set_ m hm) (And.intro (show PlanCell (wr.setCell ⟨w.heap.size + 1, m, none⟩ (.bool true)) w.heap.size p n h from (Below.heap_setCell _ _ _ _ (by simp)).trans HPL.out) (hbr.setCell (p := ⟨w.heap.size + 1, m, none⟩) (by simp) (.bool true))))
            clear hsf
            go_wp2_with fail
            go_roundw
            case rel =>
              refine ⟨k + 1, by omega, by go_num, fun j hj => ?_, HZ.out.2.1, by rw [HSU.out]; exact HZ.out.1, HZ.out.2.2⟩
              rcases Nat.lt_or_ge j k with h | h
              · exact HG.out j h
              · rw [show j = k by omega]; exact HOK.out
            case measure => simp [intOf]; omega
        · have HV := Lib.hid (HNO.out (fun g => h2 (HGA.out.1 g).2.1))
          go_wp2_with fail
          go_ret
          exact RetB.bool HV.out hbr
      · have HV := Lib.hid (HNO.out (fun g => h1 (HGA.out.1 g).1))
        go_wp2_with fail
        go_ret
        exact RetB.bool HV.out hbr
    · have HV := Lib.hid (gvB_yes (fun j hj => HG.out j (by omega)))
      go_wp2_with fail
      go_ret
      exact RetB.bool HV.out hbr
end Go.Proofs.YtlhipgejiacklaaDoor
namespace Go.Proofs.YtlhipgejiacklaaDoor
open Go.RowKit

def ftE (p h x : Int) (L : List Int) (x0 : Int) (l0 : Nat) : Bool := stB p h x L && (decide (x = x0) && decide (L.length = l0))
theorem ftE_st {p h x : Int} {L : List Int} {x0 : Int} {l0 : Nat} (H : stB p h x L = false) : true = !ftE p h x L x0 l0 := by unfold ftE; rw [H]; rfl
theorem ftE_x {p h x : Int} {L : List Int} {x0 : Int} {l0 : Nat} (H : ¬ x = x0) : true = !ftE p h x L x0 l0 := by unfold ftE; rw [decide_eq_false H]; simp
theorem ftE_l {p h x : Int} {L : List Int} {x0 : Int} {l0 : Nat} (H : ¬ L.length = l0) : true = !ftE p h x L x0 l0 := by unfold ftE; rw [decide_eq_false H]; simp
theorem ftE_ok {p h x : Int} {L : List Int} {x0 : Int} {l0 : Nat} (H1 : stB p h x L = true) (H2 : x = x0) (H3 : L.length = l0) : false = !ftE p h x L x0 l0 := by unfold ftE; rw [H1, decide_eq_true H2, decide_eq_true H3]; rfl
set_option maxRecDepth 100000 in
set_option maxHeartbeats 4000000 in
theorem fit1_any (p n h x x0 : Int) (B B0 : Option Addr) (L : List Int) (cb c0 l0 : Nat) (b off nA cA t z : Nat) (w : World) (hT : PlanCell w t p n h) (hz : w.cell? ⟨z, 0, none⟩ = some (.slice (some ⟨b, off, none⟩) nA cA)) (hzl : z < w.heap.size) (hn : 0 < nA) (hb : b < w.heap.size)
    (h0 : w.cell? ⟨b, off, none⟩ = some (.int .i64 x0)) (h1 : w.cell? ⟨b, off + 1, none⟩ = some (.slice B0 l0 c0)) (hI : IntsAt w B L) (hl : L.length ≤ 1048576) :
    Calls Tryd.prog 93 #[shV x (.slice B L.length cb), .pointer (some ⟨t, 0, none⟩), .pointer (some ⟨z, 0, none⟩)] w (RetB (.bool (!ftE p h x L x0 l0)) w) := by
  have HST := Lib.hid (fun (W : World) (hb : Below w.heap.size w W) => stands_any p n h x B L cb W (hI.keep (P := fun _ => True) (fun _ _ _ => .inr trivial) ⟨hb.size, fun b _ hlt => hb.block b hlt⟩) (by omega))
  have HT := Lib.hid hT
  have hi0 : (0 : Int) < (nA : Int) := by omega
  have ltT := hT.lt
  clear hI hT
  cases hst : stB p h x L with
  | false =>
    rw [hst] at HST
    have HV := Lib.hid (ftE_st (x0 := x0) (l0 := l0) hst)
    clear hst
    go_enter Tryd.func93, Tryd.ntmps93
    go_wp2_with fail
    refine gen_world fun w1 hw1 => ?_
    have hsc : ShCell w1 w.heap.size x (.slice B L.length cb) := by rw [hw1]; exact ShCell.new _ _ rfl
    have hb1 : Below w.heap.size w w1 := by rw [hw1]; exact below_alloc _ _
    have hp1 := HT.out.below hb1
    have p0 := hp1.c0
    have p1 := hp1.c1
    have p2 := hp1.c2
    have s0 := hsc.c0
    have s1 := hsc.c1
    have z0 := (hb1.cell (p := ⟨z, 0, none⟩) hzl).trans hz
    have f0 := (hb1.cell (p := ⟨b, off, none⟩) hb).trans h0
    have f1 := (hb1.cell (p := ⟨b, off + 1, none⟩) hb).trans h1
    have ls := hsc.lt
    have lp := hp1.lt
    have lz : z < w1.heap.size := Nat.lt_of_lt_of_le hzl hb1.size
    have lb : b < w1.heap.size := Nat.lt_of_lt_of_le hb hb1.size
    clear hw1 hsc hp1 hz h0 h1
    refine wp_region_grew (by kernel_rfl) (by kernel_rfl) ?_
    repeat (go_big_quiet_step ((go_at_call 71; exact grew_of (HST.out _ (below_trans hb1 (grewW.below _ _))))))
    refine wpQuiet_nil ?_
    intro w2 hb2
    have hbw := below_trans hb1 hb2
    go_wp2_with fail
    go_ret
    exact RetB.bool HV.out hbw
  | true =>
    rw [hst] at HST
    by_cases hx : x = x0
    · by_cases hll : L.length = l0
      · have HV := Lib.hid (ftE_ok hst hx hll)
        have t1 : (x != x0) = false := by simp [hx]
        have t2 : ((L.length : Int) != (l0 : Int)) = false := by simp [hll]
        clear hst hx hll
        go_enter Tryd.func93, Tryd.ntmps93
        go_wp2_with fail
        refine gen_world fun w1 hw1 => ?_
        have hsc : ShCell w1 w.heap.size x (.slice B L.length cb) := by rw [hw1]; exact ShCell.new _ _ rfl
        have hb1 : Below w.heap.size w w1 := by rw [hw1]; exact below_alloc _ _
        have hp1 := HT.out.below hb1
        have p0 := hp1.c0
        have p1 := hp1.c1
        have p2 := hp1.c2
        have s0 := hsc.c0
        have s1 := hsc.c1
        have z0 := (hb1.cell (p := ⟨z, 0, none⟩) hzl).trans hz
        have f0 := (hb1.cell (p := ⟨b, off, none⟩) hb).trans h0
        have f1 := (hb1.cell (p := ⟨b, off + 1, none⟩) hb).trans h1
        have ls := hsc.lt
        have lp := hp1.lt
        have lz : z < w1.heap.size := Nat.lt_of_lt_of_le hzl hb1.size
        have lb : b < w1.heap.size := Nat.lt_of_lt_of_le hb hb1.size
        clear hw1 hsc hp1 hz h0 h1
        refine wp_region_grew (by kernel_rfl) (by kernel_rfl) ?_
        repeat (go_big_quiet_step ((go_at_call 71; exact grew_of (HST.out _ (below_trans hb1 (grewW.below _ _))))))
        refine wpQuiet_nil ?_
        intro w2 hb2
        have hbw := below_trans hb1 hb2
        go_wp2_with fail
        go_ret
        exact RetB.bool HV.out hbw
      · have HV := Lib.hid (ftE_l (p := p) (h := h) (x := x) (x0 := x0) hll)
        have t1 : (x != x0) = false := by simp [hx]
        have t2 : ((L.length : Int) != (l0 : Int)) = true := by simp; omega
        clear hst hx hll
        go_enter Tryd.func93, Tryd.ntmps93
        go_wp2_with fail
        refine gen_world fun w1 hw1 => ?_
        have hsc : ShCell w1 w.heap.size x (.slice B L.length cb) := by rw [hw1]; exact ShCell.new _ _ rfl
        have hb1 : Below w.heap.size w w1 := by rw [hw1]; exact below_alloc _ _
        have hp1 := HT.out.below hb1
        have p0 := hp1.c0
        have p1 := hp1.c1
        have p2 := hp1.c2
        have s0 := hsc.c0
        have s1 := hsc.c1
        have z0 := (hb1.cell (p := ⟨z, 0, none⟩) hzl).trans hz
        have f0 := (hb1.cell (p := ⟨b, off, none⟩) hb).trans h0
        have f1 := (hb1.cell (p := ⟨b, off + 1, none⟩) hb).trans h1
        have ls := hsc.lt
        have lp := hp1.lt
        have lz : z < w1.heap.size := Nat.lt_of_lt_of_le hzl hb1.size
        have lb : b < w1.heap.size := Nat.lt_of_lt_of_le hb hb1.size
        clear hw1 hsc hp1 hz h0 h1
        refine wp_region_grew (by kernel_rfl) (by kernel_rfl) ?_
        repeat (go_big_quiet_step ((go_at_call 71; exact grew_of (HST.out _ (below_trans hb1 (grewW.below _ _))))))
        refine wpQuiet_nil ?_
        intro w2 hb2
        have hbw := below_trans hb1 hb2
        go_wp2_with fail
        go_ret
        exact RetB.bool HV.out hbw
    · have HV := Lib.hid (ftE_x (p := p) (h := h) (L := L) (l0 := l0) hx)
      have t1 : (x != x0) = true := by simp [hx]
      clear hst hx
      go_enter Tryd.func93, Tryd.ntmps93
      go_wp2_with fail
      refine gen_world fun w1 hw1 => ?_
      have hsc : ShCell w1 w.heap.size x (.slice B L.length cb) := by rw [hw1]; exact ShCell.new _ _ rfl
      have hb1 : Below w.heap.size w w1 := by rw [hw1]; exact below_alloc _ _
      have hp1 := HT.out.below hb1
      have p0 := hp1.c0
      have p1 := hp1.c1
      have p2 := hp1.c2
      have s0 := hsc.c0
      have s1 := hsc.c1
      have z0 := (hb1.cell (p := ⟨z, 0, none⟩) hzl).trans hz
      have f0 := (hb1.cell (p := ⟨b, off, none⟩) hb).trans h0
      have f1 := (hb1.cell (p := ⟨b, off + 1, none⟩) hb).trans h1
      have ls := hsc.lt
      have lp := hp1.lt
      have lz : z < w1.heap.size := Nat.lt_of_lt_of_le hzl hb1.size
      have lb : b < w1.heap.size := Nat.lt_of_lt_of_le hb hb1.size
      clear hw1 hsc hp1 hz h0 h1
      refine wp_region_grew (by kernel_rfl) (by kernel_rfl) ?_
      repeat (go_big_quiet_step ((go_at_call 71; exact grew_of (HST.out _ (below_trans hb1 (grewW.below _ _))))))
      refine wpQuiet_nil ?_
      intro w2 hb2
      have hbw := below_trans hb1 hb2
      go_wp2_with fail
      go_ret
      exact RetB.bool HV.out hbw
theorem enter_fit1 (args : Array Value) (w : World) : (callFunc 93 args).run Tryd.prog w = .ok (.enter 93 args) w :=
  MuLone.run_callFunc_enter Tryd.func93 (by kernel_rfl) rfl args w
/-- All shares stand, are one holder's, and have equally many values. -/
def fitsB (p h : Int) (S : List Shr) : Bool := !anyN (fun k => !ftE p h (hS S k) (vS S k) (hS S 0) (vS S 0).length) S.length
end Go.Proofs.YtlhipgejiacklaaDoor
namespace Go.Proofs.YtlhipgejiacklaaDoor
open Go.RowKit

set_option maxHeartbeats 1000000 in
theorem indexShV_any {P : Nat → Prop} (n : Nat) (us : Array Value) (T : Nat → Bool) (A : Option Addr) (S : List Shr) (cap : Nat) (w : World) (hSh : ShP P w A cap S) (hl : S.length ≤ 1048576) (hn : ∀ args w, (callFunc n args).run Tryd.prog w = .ok (.enter n args) w)
    (hT : ∀ w', Below w.heap.size w w' → ∀ k, k < S.length → ∀ B c, IntsP P w' B c (vS S k) → Calls Tryd.prog n (#[shV (hS S k) (.slice B (vS S k).length c)] ++ us) w' (RetB (.bool (T k)) w')) :
    Calls Tryd.prog 58 #[.slice A S.length cap, .func (.func n) #[] us] w (fun e w' => ∃ i : Int, e = .returned (.int .i64 i) ∧ IxN T S.length i ∧ Below w.heap.size w w') := by
  have HS := Lib.hid hSh
  have HT := Lib.hid hT
  clear hT hSh
  go_enter Tryd.func58, Tryd.ntmps58
  go_wp2_with fail
  go_loopw [8] (fun i wr => ∃ k : Nat, k ≤ S.length ∧ i = .int .i64 k ∧ (∀ j, j < k → T j = false) ∧ Below w.heap.size w wr) (fun i _ => S.length - (intOf i).toNat)
  case atStart => exact ⟨0, Nat.zero_le _, rfl, fun j hj => absurd hj (by omega), Below.refl _ _⟩
  case round =>
    obtain ⟨k, hk, rfl, hpre, hbr⟩ := hrel
    have HP := Lib.hid hpre
    clear hpre
    by_cases hlt : k < S.length
    · obtain ⟨b, off, B, c, rfl, hbl, -, c1, c2, c3⟩ := HS.out.at_ k hlt
      have HC3 := Lib.hid (c3.keep (Kept.below hbr))
      have d1 := (hbr.cell (p := ⟨b, off + k * 2, none⟩) hbl).trans c1
      have d2 := (hbr.cell (p := ⟨b, off + k * 2 + 1, none⟩) hbl).trans c2
      have hbs := hbr.size
      clear c1 c2 c3
      go_wp2_with fail
      refine ret_below (HT.out _ hbr k hlt B c HC3.out) fun w2 hb2 => ?_
      generalize hx : T k = tv at *
      have HX := Lib.hid hx
      clear hx
      have hbw : Below w.heap.size w w2 := hbr.trans (hb2.mono hbs)
      cases tv with
      | true =>
        go_wp2_with fail
        go_ret
        exact ⟨_, rfl, .inr ⟨k, rfl, hlt, HX.out, HP.out⟩, hbw⟩
      | false =>
        go_wp2_with fail
        go_roundw
        case rel =>
          refine ⟨k + 1, by omega, by go_num, fun j hj => ?_, hbw⟩
          by_cases hjk : j = k
          · subst hjk; exact HX.out
          · exact HP.out j (by omega)
        case measure => simp [intOf]; omega
    · go_wp2_with fail
      go_ret
      exact ⟨_, rfl, .inl ⟨rfl, fun j hj => HP.out j (by omega)⟩, hbr⟩
set_option maxHeartbeats 400000 in
theorem containsShV_any {P : Nat → Prop} (n : Nat) (us : Array Value) (T : Nat → Bool) (A : Option Addr) (S : List Shr) (cap : Nat) (w : World) (hSh : ShP P w A cap S) (hl : S.length ≤ 1048576) (hn : ∀ args w, (callFunc n args).run Tryd.prog w = .ok (.enter n args) w)
    (hT : ∀ w', Below w.heap.size w w' → ∀ k, k < S.length → ∀ B c, IntsP P w' B c (vS S k) → Calls Tryd.prog n (#[shV (hS S k) (.slice B (vS S k).length c)] ++ us) w' (RetB (.bool (T k)) w')) :
    Calls Tryd.prog 60 #[.slice A S.length cap, .func (.func n) #[] us] w (RetB (.bool (anyN T S.length)) w) := by
  have HC := Lib.hid (indexShV_any n us T A S cap w hSh hl hn hT)
  clear hSh hn hT
  go_enter Tryd.func60, Tryd.ntmps60
  go_wp2_with fail
  refine HC.out.mono ?_
  rintro e w1 ⟨i, rfl, hi, hb⟩
  have HI := Lib.hid (ixN_any hi)
  clear hi
  go_wp2_with fail
  go_ret
  exact RetB.bool HI.out hb


set_option maxRecDepth 100000 in
set_option maxHeartbeats 4000000 in
theorem fit_any {P : Nat → Prop} (p n h : Int) (A : Option Addr) (c : Nat) (S : List Shr) (w : World) (hA : ShP P w A c S) (hsh : Short S) (hl : S.length ≤ 100000) :
    Calls Tryd.prog 75 #[planV p n h, .slice A S.length c] w (RetB (.bool (fitsB p h S)) w) := by
  have HC := Lib.hid (fun (W : World) (hb : Below w.heap.size w W) (t z : Nat) (hT : PlanCell W t p n h) (hz : W.cell? ⟨z, 0, none⟩ = some (.slice A S.length c)) (hzl : z < W.heap.size) =>
    containsShV_any 93 #[.pointer (some ⟨t, 0, none⟩), .pointer (some ⟨z, 0, none⟩)] (fun k => !ftE p h (hS S k) (vS S k) (hS S 0) (vS S 0).length) A S c W (hA.below hb) (by omega) enter_fit1 (fun w' hb' k hk B cb hIB => by
      obtain ⟨b, off, B0, c0, rfl, hb0, -, x0, x1, -⟩ := (hA.below (below_trans hb hb')).at_ 0 (by omega)
      rw [Nat.zero_mul, Nat.add_zero] at x0 x1
      exact fit1_any p n h (hS S k) (hS S 0) B B0 (vS S k) cb c0 (vS S 0).length b off S.length c t z w' (hT.below hb') ((hb'.cell hzl).trans hz) (Nat.lt_of_lt_of_le hzl hb'.size) (by omega) hb0 x0 x1 hIB.ints (by have := hsh k hk; omega)))
  clear hA
  go_enter Tryd.func75, Tryd.ntmps75
  go_wp2_with fail
  refine gen_calls fun w1 hw1 => ?_
  have hP : PlanCell w1 w.heap.size p n h := by rw [hw1]; exact (PlanCell.new _ _ _ rfl).alloc _
  have hz1 : w1.heap[w.heap.size + 1]? = some (.cells #[.slice A S.length c] 31 (0, 0)) := by
    rw [hw1]
    have := heap_alloc_new (w.alloc (.cells #[.int .i64 p, .int .i64 n, .int .i64 h] 28)) (.cells #[.slice A S.length c] 31)
    rw [size_alloc] at this; exact this
  have hb1 : Below w.heap.size w w1 := by rw [hw1]; exact bl_alloc _ (below_alloc _ _)
  have hlz := blk_lt hz1
  have z0 : w1.cell? ⟨w.heap.size + 1, 0, none⟩ = some (.slice A S.length c) := by rw [cell_of_row w1 _ 0 _ _ (0, 0) hz1]; rfl
  clear hw1 hz1
  refine ret_below (HC.out w1 hb1 w.heap.size (w.heap.size + 1) hP z0 hlz) fun w2 hb2 => ?_
  have HV := Lib.hid (show (!anyN (fun k => !ftE p h (hS S k) (vS S k) (hS S 0) (vS S 0).length) S.length) = fitsB p h S from rfl)
  generalize anyN (fun k => !ftE p h (hS S k) (vS S k) (hS S 0) (vS S 0).length) S.length = ab at *
  go_wp2_with fail
  go_ret
  exact RetB.bool HV.out (below_trans hb1 hb2)

/-! ### Split -/
theorem stands_nat (p n h x : Nat) (B : Option Addr) (L : List Nat) (c k : Nat) (w : World) (hI : NatsAt w B L) (hl : L.length ≤ 1048576) (h1 : 1 ≤ x) (h2 : x ≤ h) (hL : ∀ y ∈ L, y < p) (hk : k = L.length) :
    Calls Tryd.prog 71 #[planV p n h, shV x (.slice B k c)] w (RetB (.bool true) w) := by
  subst hk
  have := stands_any p n h x B (ofN L) c w hI.ints (by rw [len_ofN]; omega)
  rw [← stB_in (by omega) (by omega), show inside (p : Int) (ofN L) = true from nat_inside hL, len_ofN] at this
  exact this
set_option maxRecDepth 100000 in
set_option maxHeartbeats 4000000 in
theorem split_made (p n h n' h' x : Nat) (B C : Option Addr) (L ran : List Nat) (cb cc j : Nat) (w : World) (PN : PlanN p n h) (PN' : PlanN p n' h') (hB : Bases w) (hI : NatsAt w B L) (hR : NatsAt w C ran) (hok : SlOK C cc ran) (h1 : 1 ≤ x) (h2 : x ≤ h) (hL : ∀ y ∈ L, y < p) (hr : ∀ y ∈ ran, y < p) (hm : L.length ≤ 2048)
    (hl : ran.length = L.length * (n' - 1)) (hl2 : ran.length ≤ 1048576) (hj : j = ran.length) :
    Calls Tryd.prog 42 #[planV p n h, planV p n' h', shV x (.slice B L.length cb), .slice C j cc] w (DealR (dealN p n' h' L ran) h' w) := by
  subst hj
  have HPL := Lib.hid (fun (W : World) (hb : Below w.heap.size w W) => plans_made p n h n' h' W PN PN' (hB.below hb hB.1))
  have HST := Lib.hid (fun (W : World) (hb : Below w.heap.size w W) => stands_nat p n h x B L cb L.length W (hI.below hb) (by omega) h1 h2 hL rfl)
  have HDL := Lib.hid (fun (W : World) (hb : Below w.heap.size w W) => deal_made (A := B) (B := C) (ca := cb) (cb := cc) (w := W) PN' (hB.below hb hB.1) (hI.below hb) (hR.below hb) hok hm hL hr hl hl2 rfl rfl)
  clear hB hI hR hok hL hr hl
  go_enter Tryd.func42, Tryd.ntmps42
  go_wp2_with fail
  refine gen_calls fun w1 hw1 => ?_
  have hP : PlanCell w1 w.heap.size p n h := by rw [hw1]; exact ((PlanCell.new _ _ _ rfl).alloc _).alloc _
  have hQ : PlanCell w1 (w.heap.size + 1) p n' h' := by rw [hw1]; exact (PlanCell.new _ _ _ (by simp)).alloc _
  have hS : ShCell w1 (w.heap.size + 1 + 1) x (.slice B L.length cb) := by rw [hw1]; exact ShCell.new _ _ (by simp)
  have hb1 : Below w.heap.size w w1 := by rw [hw1]; exact bl_alloc _ (bl_alloc _ (below_alloc _ _))
  clear hw1
  refine ret_below (HPL.out _ hb1) fun w2 hb2 => ?_
  have hb2w := below_trans hb1 hb2
  have hP2 := hP.below hb2
  have hQ2 := hQ.below hb2
  have hS2 := hS.below hb2
  have p0 := hP2.c0
  have p1 := hP2.c1
  have p2 := hP2.c2
  have s0 := hS2.c0
  have s1 := hS2.c1
  clear hP hQ hS hb1 hb2
  go_wp2_with fail
  refine ret_below (HST.out _ hb2w) fun w3 hb3 => ?_
  have hb3w := below_trans hb2w hb3
  have hQ3 := hQ2.below hb3
  have hS3 := hS2.below hb3
  have q0 := hQ3.c0
  have q1 := hQ3.c1
  have q2 := hQ3.c2
  have r0 := hS3.c0
  have r1 := hS3.c1
  clear p0 p1 p2 s0 s1 hP2 hQ2 hS2 hb2w
  go_wp2_with fail
  refine (HDL.out _ hb3w).mono ?_
  rintro e w4 ⟨NA, nc, rfl, hN, hb4⟩
  have HX := Lib.hid (hN.mono (Q := fun b => w.heap.size ≤ b) (fun b _ hb => by have := hb3w.size; omega))
  clear hN
  go_wp2_with fail
  go_ret2
  exact ⟨NA, nc, rfl, HX.out, below_trans hb3w hb4⟩
end Go.Proofs.YtlhipgejiacklaaDoor
namespace Go.Proofs.YtlhipgejiacklaaDoor
open Go.RowKit

/-- Sums of lists, each times its weight. -/
def joinV (p : Nat) (ws : List Nat) (Ls : Nat → List Nat) : Nat → List Nat
  | 0 => []
  | t + 1 => linN p (joinV p ws Ls t) (Ls t) (nthN ws t)
theorem joinV_lt {p : Nat} (hp : 1 ≤ p) (ws : List Nat) (Ls : Nat → List Nat) : ∀ t, ∀ x ∈ joinV p ws Ls t, x < p
  | 0 => by simp [joinV]
  | t + 1 => linN_lt hp
theorem joinV_len {p m : Nat} {ws : List Nat} {Ls : Nat → List Nat} : ∀ t, (∀ i, i < t → (Ls i).length = m) → 0 < t → (joinV p ws Ls t).length = m
  | 0, _, h => absurd h (by omega)
  | t + 1, hL, _ => by
    simp only [joinV]
    rw [linN_len, hL t (by omega)]
    rcases Nat.eq_zero_or_pos t with h0 | h0
    · subst h0; simp [joinV]
    · rw [joinV_len t (fun i hi => hL i (by omega)) h0, Nat.max_self]
theorem joinV_le {p m : Nat} {ws : List Nat} {Ls : Nat → List Nat} : ∀ t, (∀ i, i < t → (Ls i).length ≤ m) → (joinV p ws Ls t).length ≤ m
  | 0, _ => by simp [joinV]
  | t + 1, hL => by
    simp only [joinV]
    rw [linN_len]
    have := joinV_le t (fun i hi => hL i (by omega)) (p := p) (ws := ws)
    have := hL t (by omega)
    omega
theorem enter_linear (args : Array Value) (w : World) : (callFunc 77 args).run Tryd.prog w = .ok (.enter 77 args) w :=
  Go.MuLone.run_callFunc_enter Tryd.func77 (by kernel_rfl) rfl args w
theorem step_linear {ops : Array Oper} {o : Oper} {a : Act} {K : Act → World → Prop} {Q : Exit → Act → World → Prop} {E : Prop} {p c l m : Nat} {A B : Option Addr} {ca cb : Nat} (L : List Nat) (W : World) (hgd : o.guard = none) (s1 s2 s3 s4 : Operand) (ts : Array TypeId)
    (ho : o.op = .call { callee := .value (.func 77), args := #[s1, s2, s3, s4], argTypes := ts }) (h1 : a.eval s1 = .int .i64 (p : Int)) (h2 : a.eval s2 = .slice A l ca) (h3 : a.eval s3 = .slice B m cb) (h4 : a.eval s4 = .int .i64 (c : Int))
    (hc : Calls Tryd.prog 77 #[.int .i64 (p : Int), .slice A l ca, .slice B m cb, .int .i64 (c : Int)] W (NewList L W))
    (h : ∀ A' c' w', NatsAt w' A' L → SlOK A' c' L → (∀ b off, A' = some ⟨b, off, none⟩ → W.heap.size ≤ b ∧ b < w'.heap.size) → Below W.heap.size W w' → K (a.put o.dst (.slice A' L.length c')) w') :
    if Region.wanted o (yielded ops a.tmps) = true then Oper.wp Tryd.prog o a W K Q else E :=
  step_call W hgd _ _ ts ho enter_linear _ (by simp [h1, h2, h3, h4]) hc (fun e w' hr => by
    obtain ⟨A', c', rfl, g1, g2, g3, g4⟩ := hr.open_
    exact ⟨_, rfl, h A' c' w' g1 g2 g3 g4⟩)
theorem keep_set1 {w : World} {g a : Nat} {u : Value} {q : Addr} {x : Value} (hq : q.block ≠ g) (h : w.cell? q = some x) : (w.setCell ⟨g, a, none⟩ u).cell? q = some x :=
  (World.cell?_setCell_other _ _ _ _ (fun e => hq (by subst e; rfl))).trans h
theorem nats_set1 {w : World} {g a : Nat} {u : Value} {A : Option Addr} {L : List Nat} (h : NatsAt w A L) (hA : ∀ b off, A = some ⟨b, off, none⟩ → b ≠ g) : NatsAt (w.setCell ⟨g, a, none⟩ u) A L := fun k hk => by
  obtain ⟨b1, off, e, hlt, hc⟩ := h k hk
  exact ⟨b1, off, e, by simpa [World.setCell] using hlt, (World.cell?_setCell_other _ _ _ _ (fun e2 => hA b1 off e (by injection e2 with e3 _; exact e3.symm))).trans hc⟩
/-- Parts of one holder, with equally many elements. -/
structure Parts (p h' y m : Nat) (Q : List ShN) : Prop where
  hold : ∀ k, k < Q.length → hN Q k = y
  lo : 1 ≤ y
  hi : y ≤ h'
  len : ∀ k, k < Q.length → (vN Q k).length = m
  lt : ∀ k, k < Q.length → ∀ x ∈ vN Q k, x < p
theorem Parts.fits {p h' y m : Nat} {Q : List ShN} (H : Parts p h' y m Q) : fitsB p h' (shL Q) = true := by
  unfold fitsB
  rw [Bool.not_eq_true']
  unfold anyN
  rw [List.any_eq_false]
  intro k hk
  have hk := List.mem_range.1 hk
  rw [shL_len] at hk
  have e := ftE_ok (p := p) (h := h') (x := hS (shL Q) k) (L := vS (shL Q) k) (x0 := hS (shL Q) 0) (l0 := (vS (shL Q) 0).length) (by
    rw [hS_shL hk, vS_shL, H.hold k hk, ← stB_in (by have := H.lo; omega) (by have := H.hi; omega)]; exact nat_inside (H.lt k hk)) (by rw [hS_shL hk, hS_shL (show 0 < Q.length by omega), H.hold k hk, H.hold 0 (by omega)]) (by rw [vS_shL, vS_shL, len_ofN, len_ofN, H.len k hk, H.len 0 (by omega)])
  rw [← e]; simp
theorem gv_nat {h : Nat} {hs : List Nat} (hn : hs.Nodup) (hr : ∀ x ∈ hs, 1 ≤ x ∧ x ≤ h) : gvB h (ofN hs) = true := by
  refine (gvB_yes fun k hk => ?_).symm
  rw [len_ofN] at hk
  have h1 := hr _ (nthN_mem hk)
  refine ⟨by rw [nth_ofN]; omega, by rw [nth_ofN]; omega, fun j hj e => ?_⟩
  rw [nth_ofN, nth_ofN] at e
  have e : nthN hs j = nthN hs k := by omega
  rw [nthN_eq hk, nthN_eq (show j < hs.length by omega)] at e
  have := List.pairwise_iff_getElem.1 hn j k (by omega) hk hj
  exact this e

set_option maxRecDepth 100000 in
set_option maxHeartbeats 4000000 in
theorem join_made {P : Nat → Prop} (p n h n' h' y m t : Nat) (A B : Option Addr) (ca cb : Nat) (hs : List Nat) (Q : List ShN) (w : World) (PN : PlanN p n h) (PN' : PlanN p n' h') (hB : Bases w) (hA : NatsAt w A hs) (hQ : ShP P w B cb (shL Q))
    (hnd : hs.Nodup) (hr : ∀ x ∈ hs, 1 ≤ x ∧ x ≤ h) (hp : Parts p h' y m Q) (hm : m ≤ 2048) (ht : hs.length = t) (hq : Q.length = t) (hn : n ≤ t) (ht7 : t ≤ 16) :
    Calls Tryd.prog 44 #[planV p n h, planV p n' h', .slice A t ca, .slice B t cb] w (NewShrE y (joinV p (wsN p hs 0) (fun i => vN Q i) t) 0 w) := by
  have hn1 := PN.n1
  have hsl : ∀ x ∈ hs, x < p := fun x hx => by have := hr x hx; have := PN.hp; omega
  have hck : ckE hs = 0 := ckE_ok (by omega) hnd
  have HPL := Lib.hid (fun (W : World) (hb : Below w.heap.size w W) => plans_made p n h n' h' W PN PN' (hB.below hb hB.1))
  have HGV := Lib.hid (fun (W : World) (hb : Below w.heap.size w W) => show Calls Tryd.prog 74 #[planV p n h, .slice A t ca] W (RetB (.bool true) W) from by
    have := givers_any p n h A ca (ofN hs) W (hA.below hb).ints (by have := PN.h7; omega) (by rw [len_ofN]; omega)
    rw [gv_nat hnd hr, len_ofN, ht] at this; exact this)
  have HFT := Lib.hid (fun (W : World) (hb : Below w.heap.size w W) => show Calls Tryd.prog 75 #[planV p n' h', .slice B t cb] W (RetB (.bool true) W) from by
    have := fit_any p n' h' B cb (shL Q) W (hQ.below hb) (short_shL fun k hk => by have := hp.len k hk; omega) (by rw [shL_len]; omega)
    rw [hp.fits, shL_len, hq] at this; exact this)
  have HWT := Lib.hid (fun (W : World) (hb : Below w.heap.size w W) => show Calls Tryd.prog 76 #[.int .i64 p, .slice A t ca, .int .i64 0] W (ListErr (wsN p hs 0) 0 W) from by
    have := weights_any p A hs ca 0 W PN.pr.1 (by have := PN.p2; omega) (hA.below hb) hsl (by omega) (by have := PN.p1; omega)
    rw [wsR_ok hck, hck, ht] at this; exact this)
  have HQ := Lib.hid hQ
  have HPT := Lib.hid hp
  have HQL := Lib.hid hq
  have hp1 := PN.p1
  have hp2 : p ≤ 2147483648 := by have := PN.p2; omega
  have hWL : (wsN p hs 0).length = t := by rw [wsN_len, ht]
  have HWL := Lib.hid hWL
  have HWP := Lib.hid (wsN_lt hp1 hs 0)
  clear hA hQ hB hnd hr hp ht hq hck hsl hWL PN PN'
  generalize wsN p hs 0 = ws at *
  go_enter Tryd.func44, Tryd.ntmps44
  go_wp2_with fail
  refine gen_calls fun w1 hw1 => ?_
  have hP : PlanCell w1 w.heap.size p n h := by rw [hw1]; exact ((PlanCell.new _ _ _ rfl).alloc _).alloc _
  have hQ' : PlanCell w1 (w.heap.size + 1) p n' h' := by rw [hw1]; exact (PlanCell.new _ _ _ (by simp)).alloc _
  have hR : ShCell w1 (w.heap.size + 1 + 1) 0 (.slice none 0 0) := by rw [hw1]; exact ShCell.new _ _ (by simp)
  have hb1 : Below w.heap.size w w1 := by rw [hw1]; exact bl_alloc _ (bl_alloc _ (below_alloc _ _))
  clear hw1
  refine ret_below (HPL.out _ hb1) fun w2 hb2 => ?_
  have hb2w := below_trans hb1 hb2
  have hP2 := hP.below hb2
  have hQ2 := hQ'.below hb2
  have hR2 := hR.below hb2
  have p0 := hP2.c0
  have p1 := hP2.c1
  have p2 := hP2.c2
  clear hP hQ' hR hb1 hb2
  go_wp2_with fail
  refine ret_below (HGV.out _ hb2w) fun w3 hb3 => ?_
  have hb3w := below_trans hb2w hb3
  have hP3 := hP2.below hb3
  have hQ3 := hQ2.below hb3
  have hR3 := hR2.below hb3
  have q0 := hQ3.c0
  have q1 := hQ3.c1
  have q2 := hQ3.c2
  clear p0 p1 p2 hP2 hQ2 hR2 hb2w hb3
  go_wp2_with fail
  refine ret_below (HFT.out _ hb3w) fun w4 hb4 => ?_
  have hb4w := below_trans hb3w hb4
  have hP4 := hP3.below hb4
  have hR4 := hR3.below hb4
  have p0 := hP4.c0
  have p1 := hP4.c1
  have p2 := hP4.c2
  clear q0 q1 q2 hP3 hQ3 hR3 hb3w hb4
  go_wp2_with fail
  refine (HWT.out _ hb4w).mono ?_
  rintro e w5 ⟨WA, wc, rfl, hW, hWS, hWO, hb5⟩
  have hb5w := below_trans hb4w hb5
  have HP5 := Lib.hid (hP4.below hb5)
  have HR5 := Lib.hid (hR4.below hb5)
  have HW5 := Lib.hid hW
  rw [HWL.out]
  obtain ⟨b, off, B0, c0, rfl, hb0, -, x0, x1, -, -⟩ := (HQ.out.below hb5w).nat (show 0 < Q.length by rw [HQL.out]; omega)
  rw [Nat.zero_mul, Nat.add_zero, HPT.out.hold 0 (by rw [HQL.out]; omega)] at x0
  rw [Nat.zero_mul, Nat.add_zero] at x1
  have hi0 : (0 : Int) < (t : Int) := by omega
  clear p0 p1 p2 hP4 hR4 hb4w hb5 hW hWS hWO HPL HGV HFT HWT
  go_wp2_with fail
  have hbwb : w.heap.size + 1 + 1 < w5.heap.size := HR5.out.lt
  go_loopw [61] (fun i wr => ∃ (k : Nat) (VA : Option Addr) (vc : Nat), k ≤ t ∧ i = .int .i64 k ∧ ShCell wr w5.heap.size y (.slice VA (joinV p ws (fun i => vN Q i) k).length vc) ∧ NatsAt wr VA (joinV p ws (fun i => vN Q i) k) ∧ SlOK VA vc (joinV p ws (fun i => vN Q i) k) ∧ (∀ b off, VA = some ⟨b, off, none⟩ → w5.heap.size < b ∧ b < wr.heap.size) ∧ Below w5.heap.size w5 wr) (fun i _ => t - (intOf i).toNat)
  case atStart => exact ⟨0, none, 0, Nat.zero_le _, rfl, ShCell.new _ _ rfl, NatsAt.nil _ _, SlOK.none0, (fun b off e => by cases e), below_alloc _ _⟩
  case round =>
    obtain ⟨k, VA, vc, hk, rfl, hsc, hVN, hVS, hVO, hbr⟩ := hrel
    have hbw := below_trans hb5w hbr
    have hsz := hbr.size
    have hJ2 : (joinV p ws (fun i => vN Q i) k).length ≤ m := joinV_le k (fun i hi => by have := HPT.out.len i (by rw [HQL.out]; omega); omega)
    by_cases hlt : k < t
    · obtain ⟨b', off', B1, c1, hA', hb', -, x0', x1', hX, -⟩ := (HQ.out.below hbw).nat (show k < Q.length by rw [HQL.out]; exact hlt)
      injection hA' with hA'
      injection hA' with hA1 hA2
      subst hA1 hA2
      rw [HPT.out.hold k (by rw [HQL.out]; exact hlt)] at x0'
      have hKl := HPT.out.len k (by rw [HQL.out]; exact hlt)
      have hKp := HPT.out.lt k (by rw [HQL.out]; exact hlt)
      have hJ : joinV p ws (fun i => vN Q i) (k + 1) = linN p (joinV p ws (fun i => vN Q i) k) (vN Q k) (nthN ws k) := rfl
      have hVp := joinV_lt hp1 ws (fun i => vN Q i) k
      obtain ⟨bw, ow, rfl, hbwl, w0⟩ := HW5.out k (by rw [HWL.out]; exact hlt)
      have hcp : nthN ws k < p := nthN_lt hp1 HWP.out k
      have hwr := (hbr.cell (p := ⟨bw, ow + k, none⟩) hbwl).trans w0
      have hq := HP5.out.below hbr
      have y0 := hq.c0
      generalize hV : joinV p ws (fun i => vN Q i) k = V at *
      generalize hV' : joinV p ws (fun i => vN Q i) (k + 1) = V' at *
      generalize hK : vN Q k = K at *
      have HJ := Lib.hid hJ
      have HVV := Lib.hid hV'
      have HKP := Lib.hid hKp
      have HVP := Lib.hid hVp
      have HVN := Lib.hid hVN
      have HX := Lib.hid hX
      have hK2 : K.length ≤ 2048 := by omega
      have lw : bw < wr.heap.size := Nat.lt_of_lt_of_le hbwl hsz
      have lpp := hq.lt
      have i1 : (0 : Int) ≤ (k : Int) := by omega
      have i2 : (k : Int) < (t : Int) := by omega
      have hlt' : w5.heap.size < wr.heap.size := hsc.lt
      have HSC := Lib.hid hsc
      generalize nthN ws k = cw at *
      clear hJ hV hV' hK hKp hVp hVN hVS hVO hX hKl w0 hq x0 x1 hsc
      go_wp2_with fail
      refine gen_world fun w7 hw7 => ?_
      have hsc7 : ShCell w7 wr.heap.size y (.slice B1 K.length c1) := by rw [hw7]; exact ShCell.new _ _ rfl
      have hb7 : Below wr.heap.size wr w7 := by rw [hw7]; exact below_alloc _ _
      have s0 := hsc7.c0
      have s1 := hsc7.c1
      have HC7 := Lib.hid (HSC.out.below hb7)
      have c0' := HC7.out.c0
      have c1' := HC7.out.c1
      have cf1 := HC7.out.frozen 1
      have z0 := (hb7.cell (p := ⟨w.heap.size, 0, none⟩) lpp).trans y0
      have wz := (hb7.cell (p := ⟨bw, ow + k, none⟩) lw).trans hwr
      have hl7 := HC7.out.lt
      have hz7 := hb7.size
      have HLN := Lib.hid (fun (W : World) (hb : Below w7.heap.size w7 W) => show Calls Tryd.prog 77 #[.int .i64 (p : Int), .slice VA V.length vc, .slice B1 K.length c1, .int .i64 (cw : Int)] W (NewList V' W) from by
        rw [HJ.out]; exact linear_list p VA B1 V K vc c1 cw W hp1 hp2 ((HVN.out.below hb7).below hb) ((HX.out.below hb7).below hb) HVP.out HKP.out hcp (by omega) (by omega))
      have lp7 : w.heap.size < w7.heap.size := by omega
      have ls7 : wr.heap.size < w7.heap.size := hsc7.lt
      have lw7 : bw < w7.heap.size := by omega
      have hbw5 : bw < w5.heap.size := hbwl
      clear hw7 hsc7 y0 hwr x0' x1'
      go_region_law (refine step_linear (p := p) (c := cw) (l := V.length) (m := K.length) (A := VA) (B := B1) (ca := vc) (cb := c1) V' _ rfl (.tmp 67) (.tmp 69) (.tmp 71) (.tmp 75) _ rfl rfl rfl rfl rfl (HLN.out _ (by (repeat (first | exact bl_refl _ | apply bl_drew | apply bl_alloc)))) ?_; intro VA' vc' w8 hN8 hS8 hO8 hb8; have hb8' : Below w7.heap.size w7 w8 := (below_undrew1 hb8); have n1 := (hb8'.cell (p := ⟨w5.heap.size, 1, none⟩) hl7).trans c1'; have n2 := (hb8'.frozen (p := ⟨w5.heap.size, 1, none⟩) hl7).trans cf1)
      all_goals
        have hO : ∀ b off, VA' = some ⟨b, off, none⟩ → w5.heap.size < b ∧ b < w8.heap.size := fun b off e => by have := hO8 b off e; rw [World.size_drew] at this; omega
        have hst := (HC7.out.below hb8').set1 (.slice VA' V'.length vc')
        have hsn : NatsAt (w8.setCell ⟨w5.heap.size, 1, none⟩ (.slice VA' V'.length vc')) VA' V' := nats_set1 hN8 (fun b off e => by have := hO b off e; omega)
        have hsz8 : (w8.setCell ⟨w5.heap.size, 1, none⟩ (.slice VA' V'.length vc')).heap.size = w8.heap.size := by simp [World.setCell]
        have hsb := ((hbr.trans (hb7.mono hsz)).trans (hb8'.mono (by omega))).setCell (p := ⟨w5.heap.size, 1, none⟩) (Nat.le_refl _) (.slice VA' V'.length vc')
        have HZ := Lib.hid (And.intro hst (And.intro hsn (And.intro hS8 (And.intro (show ∀ b off, VA' = some ⟨b, off, none⟩ → w5.heap.size < b ∧ b < (w8.setCell ⟨w5.heap.size, 1, none⟩ (.slice VA' V'.length vc')).heap.size from fun b off e => by rw [hsz8]; exact hO b off e) hsb))))
        clear hO hst hsn hsz8 hsb hN8 hS8 hO8 n1 n2
        go_wp2_with fail
        go_roundw
        case rel => exact ⟨k + 1, VA', vc', by omega, by go_num, by rw [HVV.out]; exact HZ.out.1, by rw [HVV.out]; exact HZ.out.2.1, by rw [HVV.out]; exact HZ.out.2.2.1, HZ.out.2.2.2.1, HZ.out.2.2.2.2⟩
        case measure => simp [intOf]; omega
    · obtain rfl : k = t := by omega
      have hRr := HR5.out.below hbr
      have c0' := hsc.c0
      have c1' := hsc.c1
      have r0 := hRr.c0
      have r1 := hRr.c1
      have f0 := hRr.frozen 0
      have f1 := hRr.frozen 1
      have HRR := Lib.hid hRr
      have HVV := Lib.hid (And.intro hVN (And.intro hVS hVO))
      generalize hVe : joinV p ws (fun i => vN Q i) k = V at *
      have HVE := Lib.hid hVe
      clear hVe
      have hlr := hRr.lt
      clear hsc hVN hVS hVO hRr x0 x1
      go_wp2_with fail
      refine bodyPost_ret (results_shr2 rfl _ _ (w.heap.size + 1 + 1) rfl (shcell_fill HRR.out y _)) rfl ?_
      rw [HVE.out]
      refine ⟨VA, vc, rfl, nats_set2 HVV.out.1 (fun b off e => by have := HVV.out.2.2 b off e; omega), HVV.out.2.1, fun b off e => ?_, ?_⟩
      · have := HVV.out.2.2 b off e
        rw [size_set2]
        omega
      · exact below_set2 hbw (by omega) _ _
end Go.Proofs.YtlhipgejiacklaaDoor
namespace Go.Proofs.YtlhipgejiacklaaDoor
open Go.RowKit

theorem joinV_nth {p m : Nat} {ws : List Nat} {P : Nat → Nat → List Nat} {y : Nat} (hp : 1 ≤ p) : ∀ t, ∀ e, e < m →
    nthN (joinV p ws (fun i => (List.range m).map fun e => evN p (P i e) y) t) e = evN p (joinV p ws (fun i => P i e) t) y
  | 0, e, _ => by simp [joinV, nthN, evN]
  | t + 1, e, he => by
    simp only [joinV]
    rw [ev_lin hp, linN_nth (by simp; omega), joinV_nth hp t e he, show nthN ((List.range m).map fun e => evN p (P t e) y) e = evN p (P t e) y from by rw [nthN_eq (by simpa using he)]; simp]
theorem joinV_ev {p m : Nat} {ws : List Nat} {P : Nat → Nat → List Nat} {y t : Nat} (hp : 1 ≤ p) (ht : 0 < t) :
    joinV p ws (fun i => (List.range m).map fun e => evN p (P i e) y) t = (List.range m).map fun e => evN p (joinV p ws (fun i => P i e) t) y := by
  have hl : (joinV p ws (fun i => (List.range m).map fun e => evN p (P i e) y) t).length = m := joinV_len t (fun i _ => by simp) ht
  refine extN (by rw [hl]; simp) fun e he => ?_
  rw [hl] at he
  rw [joinV_nth hp t e he, nthN_eq (by simpa using he)]; simp
theorem joinV_zero {p : Nat} {ws : List Nat} {P : Nat → List Nat} {ys : List Nat} (hp : 1 ≤ p) : ∀ t, (∀ i, i < t → evN p (P i) 0 = nthN ys i) → evN p (joinV p ws P t) 0 = wgN p ws ys t
  | 0, _ => rfl
  | t + 1, h => by
    simp only [joinV, wgN]
    rw [ev_lin hp, joinV_zero hp t (fun i hi => h i (by omega)), h t (by omega)]
theorem joinV_congr {p : Nat} {ws : List Nat} {A B : Nat → List Nat} : ∀ t, (∀ i, i < t → A i = B i) → joinV p ws A t = joinV p ws B t
  | 0, _ => rfl
  | t + 1, h => by simp only [joinV]; rw [joinV_congr t (fun i hi => h i (by omega)), h t (by omega)]

/-- The parts that holder k + 1 of the new plan gets: of each old share M, dealt with its random numbers. -/
def givenN (p n' h' : Nat) (M : List ShN) (rs : List (List Nat)) (t k : Nat) : List ShN := (List.range t).map fun i => (k + 1, vN (dealN p n' h' (vN M i) (rs.getD i [])) k)
theorem givenN_len (p n' h' : Nat) (M : List ShN) (rs : List (List Nat)) (t k : Nat) : (givenN p n' h' M rs t k).length = t := by simp [givenN]
theorem givenN_at {p n' h' : Nat} {M : List ShN} {rs : List (List Nat)} {t k i : Nat} (hi : i < t) : hN (givenN p n' h' M rs t k) i = k + 1 ∧ vN (givenN p n' h' M rs t k) i = vN (dealN p n' h' (vN M i) (rs.getD i [])) k := by
  simp [givenN, hN, vN, List.getD_eq_getElem?_getD, hi]
theorem givenN_succ (p n' h' : Nat) (M : List ShN) (rs : List (List Nat)) (t k : Nat) : givenN p n' h' M rs (t + 1) k = givenN p n' h' M rs t k ++ [(k + 1, vN (dealN p n' h' (vN M t) (rs.getD t [])) k)] := by
  simp [givenN, List.range_succ]
/-- The random numbers of each. -/
structure Rands (p n' m t : Nat) (rs : List (List Nat)) : Prop where
  len : ∀ i, i < t → (rs.getD i []).length = m * (n' - 1)
  lt : ∀ i, i < t → ∀ x ∈ rs.getD i [], x < p
/-- The shares of the new plan, by the first t old ones. -/
def movedN (p n' h' : Nat) (M : List ShN) (rs : List (List Nat)) (t : Nat) : List ShN := (List.range h').map fun k => (k + 1, joinV p (wsN p (hsN (M.take t)) 0) (fun i => vN (givenN p n' h' M rs t k) i) t)
theorem movedN_len (p n' h' : Nat) (M : List ShN) (rs : List (List Nat)) (t : Nat) : (movedN p n' h' M rs t).length = h' := by simp [movedN]
theorem movedN_at {p n' h' : Nat} {M : List ShN} {rs : List (List Nat)} {t k : Nat} (hk : k < h') : hN (movedN p n' h' M rs t) k = k + 1 ∧ vN (movedN p n' h' M rs t) k = joinV p (wsN p (hsN (M.take t)) 0) (fun i => vN (givenN p n' h' M rs t k) i) t := by
  simp [movedN, hN, vN, List.getD_eq_getElem?_getD, hk]
theorem movedN_take {p n' h' : Nat} {M : List ShN} {rs : List (List Nat)} {t k : Nat} (hk : k < h') : (movedN p n' h' M rs t).take (k + 1) = (movedN p n' h' M rs t).take k ++ [(k + 1, joinV p (wsN p (hsN (M.take t)) 0) (fun i => vN (givenN p n' h' M rs t k) i) t)] := by
  rw [List.take_succ_eq_append_getElem (by rw [movedN_len]; exact hk), getD_at (by rw [movedN_len]; exact hk), (movedN_at hk).1, (movedN_at hk).2]
theorem given_parts {p n h n' h' t k : Nat} {a : List Nat} {M : List ShN} {rs : List (List Nat)} (P : PlanN p n h) (H : Made p n h a M) (ht : t ≤ M.length) (hk : k < h') : Parts p h' (k + 1) a.length (givenN p n' h' M rs t k) := by
  refine ⟨fun i hi => ?_, by omega, by omega, fun i hi => ?_, fun i hi => ?_⟩
  · rw [givenN_len] at hi; exact (givenN_at hi).1
  · rw [givenN_len] at hi
    rw [(givenN_at hi).2, (deal_row P.p1 hk).2.1, H.vlen (by omega)]
  · rw [givenN_len] at hi
    rw [(givenN_at hi).2]; exact (deal_row P.p1 hk).2.2
theorem moved_full {p n h n' h' t : Nat} {a : List Nat} {M : List ShN} {rs : List (List Nat)} (P : PlanN p n h) (P' : PlanN p n' h') (H : Made p n h a M) (hm : a.length ≤ 2048) (hn : n ≤ t) (ht : t ≤ M.length) (hr : Rands p n' a.length t rs) :
    Full p n' h' a (movedN p n' h' M rs t) := by
  obtain ⟨F, F1, F2, F3⟩ := H.ex
  have hp := P.p1
  have hn1 := P.n1
  have g := F1.good hp hm
  have hN0 : ∀ k, k < h' → vN (movedN p n' h' M rs t) k = (List.range a.length).map fun e => evN p (joinV p (wsN p (hsN (M.take t)) 0) (fun i => polN (vN M i) (rs.getD i []) (n' - 1) e) t) (k + 1) := fun k hk => by
    rw [(movedN_at hk).2, ← joinV_ev hp (by omega)]
    refine joinV_congr t fun i hi => ?_
    rw [(givenN_at hi).2]
    unfold dealN
    rw [(dealtT_at hk).2, H.vlen (by omega)]
  refine ⟨⟨fun e => joinV p (wsN p (hsN (M.take t)) 0) (fun i => polN (vN M i) (rs.getD i []) (n' - 1) e) t, ⟨fun s hs => ?_, nodup_hsN fun k hk j hj => ?_⟩, fun e he => ?_, ?_⟩, fun k hk => ?_, movedN_len _ _ _ _ _ _⟩
  · obtain ⟨k, hk, rfl⟩ := shl_mem hs
    rw [movedN_len] at hk
    rw [(movedN_at hk).1, hN0 k hk]
    exact ⟨by omega, by omega, rfl⟩
  · rw [movedN_len] at hk
    rw [(movedN_at hk).1, (movedN_at (show j < h' by omega)).1]; omega
  · exact joinV_le t fun i hi => polN_le P'.n1
  · refine extN (by simp) fun e he => ?_
    have he' : e < a.length := by simpa using he
    rw [nthN_eq he]
    simp only [List.getElem_map, List.getElem_range]
    have hz := joinV_zero (p := p) (ws := wsN p (hsN (M.take t)) 0) (P := fun i => polN (vN M i) (rs.getD i []) (n' - 1) e) (ys := colN (M.take t) e) hp t (fun i hi => by
      have hx := (g.rng i (by omega)).2.2
      rw [evN_at0 (polN_lt hp hx (hr.lt i hi) _ _) hp, polN_zero, colN_nth (by rw [List.length_take]; omega), vN_take hi])
    rw [hz, F1.weigh P.pr P.hp ht (fun i hi => Nat.le_trans (F2 i hi) hn) he' 0]
    have : nthN a e = nthN ((List.range a.length).map fun i => evN p (F i) 0) e := by rw [F3]
    rw [this, nthN_eq (by simpa using he')]; simp
  · rw [movedN_len] at hk
    exact (movedN_at hk).1
end Go.Proofs.YtlhipgejiacklaaDoor
namespace Go.Proofs.YtlhipgejiacklaaDoor
open Go.RowKit

theorem RowsV.monoQ {Q Q' : Nat → Prop} {w : World} {base : Nat} {v : Value} {S : List Shr} (h : RowsV Q w base v S) (hq : ∀ b, b < w.heap.size → Q b → v.ownBlock ≠ some b → Q' b) : RowsV Q' w base v S := by
  obtain ⟨H, e1, e2, e3⟩ := h.ex
  refine ⟨H, e1, e2, fun k hk => ?_⟩
  obtain ⟨f1, B, c, f2, f3⟩ := e3 k hk
  exact ⟨f1, B, c, f2, f3.mono (fun b hlt hb => ⟨hq b hlt hb.1 hb.2, hb.2⟩)⟩
theorem RowsV.lt {Q : Nat → Prop} {w : World} {base : Nat} {v : Value} {S : List Shr} (h : RowsV Q w base v S) : ∀ b, v.ownBlock = some b → base ≤ b ∧ b < w.heap.size := fun b hb => by
  obtain ⟨H, e1, -, -⟩ := h.ex
  exact World.ownsRow.lt e1 b hb
theorem RowsV.more2 {Q : Nat → Prop} {w w' : World} {base : Nat} {v v' : Value} {H : List HV} {S : List Shr} (e2 : H.length = S.length)
    (e3 : ∀ k, k < S.length → (hvAt H k).1 = hS S k ∧ ∃ B c, (hvAt H k).2 = .slice B (vS S k).length c ∧ IntsP (fun b => Q b ∧ v.ownBlock ≠ some b) w B c (vS S k))
    (x : Int) (L : List Int) {B : Option Addr} {c : Nat} (hI : IntsP (fun b => Q b ∧ v.ownBlock ≠ some b) w B c L) (hown : HvOwn w' base v' (H ++ [(x, .slice B L.length c)])) (hg : w.grownBy w' v.ownBlock)
    (hv : ∀ b, v'.ownBlock = some b → v.ownBlock = some b ∨ w.heap.size ≤ b) : RowsV Q w' base v' (S ++ [(x, L)]) := by
  have key : ∀ {B : Option Addr} {c : Nat} {L : List Int}, IntsP (fun b => Q b ∧ v.ownBlock ≠ some b) w B c L → IntsP (fun b => Q b ∧ v'.ownBlock ≠ some b) w' B c L := fun hI =>
    ((hI.mono (Q := fun b => (Q b ∧ v'.ownBlock ≠ some b) ∧ v.ownBlock ≠ some b) (fun b hlt hb => ⟨⟨hb.1, fun e => by
      rcases hv b e with h | h
      · exact hb.2 h
      · omega⟩, hb.2⟩)).keep (w' := w') ⟨hg.size, fun b hb hlt => hg.block b hlt (fun e => hb.2 e.symm)⟩).mono (fun b _ hb => hb.1)
  refine ⟨_, hown, by simp [e2], fun k hk => ?_⟩
  rcases Nat.lt_or_ge k S.length with h | h
  · obtain ⟨f1, B', c', f2, f3⟩ := e3 k h
    rw [hvAt_append (by omega), (hS_append h).1, (hS_append h).2]
    exact ⟨f1, B', c', f2, key f3⟩
  · obtain rfl : k = S.length := by simp at hk; omega
    rw [hS_last.1, hS_last.2]
    rw [show S.length = H.length from e2.symm, hvAt_last]
    exact ⟨rfl, B, c, rfl, key hI⟩
theorem grown_cellSet (w : World) (g a : Nat) (u : Value) : w.grownBy (w.setCell ⟨g, a, none⟩ u) (some g) :=
  ⟨rfl, rfl, rfl, by simp [World.setCell], fun k _ hne => Below.heap_setCell w _ u k (fun e => hne (by rw [e]))⟩
/-- One list for each new holder: rows of the own, none in another. -/
structure GivenR (w : World) (base g : Nat) (Vs : List Value) (Ns : List (List ShN)) : Prop where
  blk : w.heap[g]? = some (.cells Vs.toArray 31 (0, 0))
  low : base ≤ g
  len : Vs.length = Ns.length
  row : ∀ (k : Nat) (v : Value) (N : List ShN), Vs[k]? = some v → Ns[k]? = some N → RowsV (fun b => base ≤ b ∧ b ≠ g ∧ ∀ u ∈ Vs, u.ownBlock ≠ some b) w base v (shL N)
  no : ∀ u ∈ Vs, u.ownBlock ≠ some g
  ne : ∀ (i j : Nat) (u v : Value), Vs[i]? = some u → Vs[j]? = some v → i ≠ j → ∀ b, u.ownBlock = some b → v.ownBlock ≠ some b
theorem GivenR.lt {w : World} {base g : Nat} {Vs : List Value} {Ns : List (List ShN)} (h : GivenR w base g Vs Ns) : g < w.heap.size := blk_lt h.blk
theorem GivenR.below {w w' : World} {base g : Nat} {Vs : List Value} {Ns : List (List ShN)} (h : GivenR w base g Vs Ns) (hb : Below w.heap.size w w') : GivenR w' base g Vs Ns :=
  ⟨(hb.block g h.lt).trans h.blk, h.low, h.len, fun k v N h1 h2 => (h.row k v N h1 h2).below hb, h.no, h.ne⟩
theorem GivenR.new {w : World} {base g n : Nat} (hg : w.heap[g]? = some (.cells (List.replicate n (Value.slice none 0 0)).toArray 31 (0, 0))) (hb : base ≤ g) : GivenR w base g (List.replicate n (.slice none 0 0)) (List.replicate n []) := by
  refine ⟨hg, hb, by simp, fun k v N h1 h2 => ?_, fun u hu => ?_, fun i j u v h1 h2 _ b hb => ?_⟩
  · have e1 := List.eq_of_mem_replicate (List.mem_of_getElem? h1)
    have e2 := List.eq_of_mem_replicate (List.mem_of_getElem? h2)
    subst e1 e2
    exact RowsV.nil _ _ _
  · rw [List.eq_of_mem_replicate hu]; simp [Value.ownBlock]
  · rw [List.eq_of_mem_replicate (List.mem_of_getElem? h1)] at hb; cases hb
theorem GivenR.cell {w : World} {base g k : Nat} {Vs : List Value} {Ns : List (List ShN)} {v : Value} (h : GivenR w base g Vs Ns) (hk : Vs[k]? = some v) : w.cell? ⟨g, k, none⟩ = some v ∧ w.frozen? ⟨g, k, none⟩ = false := by
  refine ⟨?_, frozen_of_row w g k _ _ h.blk⟩
  rw [cell_of_row w g k _ _ (0, 0) h.blk]
  simpa using hk
theorem GivenR.at_ {w : World} {base g k : Nat} {Vs : List Value} {Ns : List (List ShN)} (h : GivenR w base g Vs Ns) (hk : k < Ns.length) : ∃ A c, Vs[k]? = some (.slice A Ns[k].length c) ∧ ShP (fun b => base ≤ b) w A c (shL Ns[k]) := by
  have hk' : k < Vs.length := by rw [h.len]; exact hk
  have hR := h.row k Vs[k] Ns[k] (List.getElem?_eq_getElem hk') (List.getElem?_eq_getElem hk)
  obtain ⟨A, c, e, hS⟩ := hR.read
  rw [shL_len] at e
  exact ⟨A, c, by rw [List.getElem?_eq_getElem hk', e], hS.mono (fun b _ hb => hb.elim id (fun hb => hb.1))⟩
theorem GivenR.add {W w' : World} {base g k : Nat} {Vs : List Value} {Ns : List (List ShN)} {v v' : Value} {N : List ShN} {H : List HV} {x : Nat} {L : List Nat} {B : Option Addr} {c : Nat} (h : GivenR W base g Vs Ns) (hk : Vs[k]? = some v)
    (e2 : H.length = (shL N).length) (e3 : ∀ j, j < (shL N).length → (hvAt H j).1 = hS (shL N) j ∧ ∃ B c, (hvAt H j).2 = .slice B (vS (shL N) j).length c ∧ IntsP (fun b => (base ≤ b ∧ b ≠ g ∧ ∀ u ∈ Vs, u.ownBlock ≠ some b) ∧ v.ownBlock ≠ some b) W B c (vS (shL N) j))
    (hI : IntsP (fun b => base ≤ b ∧ b ≠ g ∧ ∀ u ∈ Vs, u.ownBlock ≠ some b) W B c (ofN L)) (hown : HvOwn w' base v' (H ++ [((x : Int), .slice B L.length c)])) (hg : W.grownBy w' v.ownBlock) (hv : ∀ b, v'.ownBlock = some b → v.ownBlock = some b ∨ W.heap.size ≤ b) :
    GivenR (w'.setCell ⟨g, k, none⟩ v') base g (Vs.set k v') (Ns.set k (N ++ [(x, L)])) := by
  have hkl : k < Vs.length := by
    rcases Nat.lt_or_ge k Vs.length with h1 | h1
    · exact h1
    · rw [List.getElem?_eq_none h1] at hk; cases hk
  have hmem : v ∈ Vs := List.mem_of_getElem? hk
  have hgW := h.lt
  have hvg : v.ownBlock ≠ some g := h.no v hmem
  have hv'g : v'.ownBlock ≠ some g := fun e => by
    rcases hv g e with e | e
    · exact hvg e
    · omega
  have hblk : w'.heap[g]? = W.heap[g]? := hg.block g hgW (fun e => hvg e.symm)
  -- what is in none of the new ones
  have hnew : ∀ b, b < W.heap.size → (∀ u ∈ Vs, u.ownBlock ≠ some b) → ∀ u ∈ Vs.set k v', u.ownBlock ≠ some b := fun b hlt hb u hu => by
    rcases List.mem_or_eq_of_mem_set hu with h1 | h1
    · exact hb u h1
    · subst h1
      intro e
      rcases hv b e with e | e
      · exact hb v hmem e
      · omega
  refine ⟨?_, h.low, by simp [h.len], fun j u M h1 h2 => ?_, fun u hu => ?_, fun i j u t h1 h2 hij b hb => ?_⟩
  · have : (w'.setCell ⟨g, k, none⟩ v').heap[g]? = some (.cells (Vs.toArray.setIfInBounds k v') 31 (0, 0)) := by
      have e := hblk.trans h.blk
      simp [World.setCell, Array.getElem?_modify, e]
    rw [this]; simp
  · by_cases hjk : k = j
    · subst hjk
      have hkN : k < Ns.length := by rw [← h.len]; exact hkl
      rw [List.getElem?_set_self hkl] at h1
      rw [List.getElem?_set_self hkN] at h2
      injection h1 with h1; injection h2 with h2
      subst h1 h2
      have hm := RowsV.more2 (Q := fun b => base ≤ b ∧ b ≠ g ∧ ∀ u ∈ Vs, u.ownBlock ≠ some b) e2 e3 (x : Int) (ofN L) (hI.mono (fun b _ hb => ⟨hb, hb.2.2 v hmem⟩)) (by rw [len_ofN]; exact hown) hg hv
      rw [show shL N ++ [((x : Int), ofN L)] = shL (N ++ [(x, L)]) from by simp [shL, shI]] at hm
      have hm2 := hm.monoQ (Q' := fun b => base ≤ b ∧ b ≠ g ∧ ∀ u ∈ Vs.set k v', u.ownBlock ≠ some b) (fun b _ hb hbv => ⟨hb.1, hb.2.1, fun u hu => by
        rcases List.mem_or_eq_of_mem_set hu with h1 | h1
        · exact hb.2.2 u h1
        · subst h1; exact hbv⟩)
      exact hm2.kept (grown_cellSet w' g k v') (by
        rcases hvb : v'.ownBlock with _ | b
        · exact .inl rfl
        · exact .inr (by rw [← hvb]; exact hv'g)) (fun b hb e => hb.2.1 (Option.some.inj e).symm)
    · rw [List.getElem?_set_ne hjk] at h1 h2
      have hR := h.row j u M h1 h2
      have hR1 := hR.monoQ (Q' := fun b => (base ≤ b ∧ b ≠ g ∧ ∀ u ∈ Vs.set k v', u.ownBlock ≠ some b) ∧ v.ownBlock ≠ some b) (fun b hlt hb _ => ⟨⟨hb.1, hb.2.1, hnew b hlt hb.2.2⟩, hb.2.2 v hmem⟩)
      have hR2 := hR1.kept hg (by
        rcases hub : u.ownBlock with _ | b
        · exact .inl rfl
        · exact .inr (fun e => h.ne j k u v h1 hk (fun e => hjk e.symm) b hub e.symm)) (fun b hb e => hb.2 e)
      have hR3 := hR2.monoQ (Q' := fun b => base ≤ b ∧ b ≠ g ∧ ∀ u ∈ Vs.set k v', u.ownBlock ≠ some b) (fun b _ hb _ => hb.1)
      exact hR3.kept (grown_cellSet w' g k v') (by
        rcases hub : u.ownBlock with _ | b
        · exact .inl rfl
        · exact .inr (by rw [← hub]; exact h.no u (List.mem_of_getElem? h1))) (fun b hb e => hb.2.1 (Option.some.inj e).symm)
  · rcases List.mem_or_eq_of_mem_set hu with h1 | h1
    · exact h.no u h1
    · subst h1; exact hv'g
  · -- two different ones
    have hlt : ∀ (i : Nat) (u : Value), Vs[i]? = some u → ∀ b, u.ownBlock = some b → b < W.heap.size := fun i u hu b hb => by
      have hi : i < Vs.length := by
        rcases Nat.lt_or_ge i Vs.length with h1 | h1
        · exact h1
        · rw [List.getElem?_eq_none h1] at hu; cases hu
      exact ((h.row i u _ hu (List.getElem?_eq_getElem (show i < Ns.length by rw [← h.len]; exact hi))).lt b hb).2
    by_cases hi : k = i
    · subst hi
      rw [List.getElem?_set_self hkl] at h1
      injection h1 with h1
      subst h1
      rw [List.getElem?_set_ne hij] at h2
      rcases hv b hb with e | e
      · exact h.ne k j v t hk h2 hij b e
      · intro e3
        have := hlt j t h2 b e3; omega
    · rw [List.getElem?_set_ne hi] at h1
      by_cases hj : k = j
      · subst hj
        rw [List.getElem?_set_self hkl] at h2
        injection h2 with h2
        subst h2
        intro e3
        rcases hv b e3 with e | e
        · exact h.ne i k u v h1 hk hij b hb e
        · have := hlt i u h1 b hb; omega
      · rw [List.getElem?_set_ne hj] at h2
        exact h.ne i j u t h1 h2 hij b hb
end Go.Proofs.YtlhipgejiacklaaDoor
namespace Go.Proofs.YtlhipgejiacklaaDoor
open Go.RowKit

set_option maxRecDepth 100000 in
theorem check_made {P : Nat → Prop} {p n h : Nat} {sec : List Nat} {N : List ShN} (H : Made p n h sec N) (PN : PlanN p n h) (A : Option Addr) (c k : Nat) (w : World) (hB : Bases w) (hS : ShP P w A c (shL N)) (hm : sec.length ≤ 2048) (hl : N.length ≤ 1048576) (hk : k = N.length) (hn : n ≤ N.length) :
    Calls Tryd.prog 79 #[planV p n h, .slice A k c] w (RetB (.int .i64 0) w) := by
  subst hk
  have HC := Lib.hid (fun (W : World) (hb : Below w.heap.size w W) => show Calls Tryd.prog 88 #[planV p n h, .slice A N.length c] W (RetB (.int .i64 0) W) from by
    have := check_share p n h A c (shL N) W (hB.below hb hB.1) (hS.below hb) (H.short (by omega)) (by rw [shL_len]; exact hl)
    rw [(H.cm PN hm hn).1, shL_len] at this; exact this)
  clear hS hB
  go_enter Tryd.func79, Tryd.ntmps79
  go_wp2_with fail
  refine ret_below (HC.out _ (below_alloc _ _)) fun w1 hb1 => ?_
  go_wp2_with fail
  go_ret
  exact RetB.int rfl (below_trans (below_alloc _ _) hb1)
/-- A list of lists of numbers. -/
def PhiL (P : Nat → Prop) (w : World) (v : Value) (L : List Nat) : Prop := ∃ B c, v = .slice B L.length c ∧ SlOK B c L ∧ IntsP P w B c (ofN L)
theorem phiL : PhiOK PhiL := ⟨fun ⟨B, c, e, s, h⟩ hk => ⟨B, c, e, s, h.keep hk⟩, fun ⟨B, c, e, s, h⟩ hq => ⟨B, c, e, s, h.mono hq⟩⟩
structure LstP (P : Nat → Prop) (w : World) (A : Option Addr) (c : Nat) (rs : List (List Nat)) : Prop where
  at_ : ∀ k, k < rs.length → ∃ b off B c', A = some ⟨b, off, none⟩ ∧ b < w.heap.size ∧ P b ∧ w.cell? ⟨b, off + k, none⟩ = some (.slice B (rs.getD k []).length c') ∧ SlOK B c' (rs.getD k []) ∧ IntsP P w B c' (ofN (rs.getD k []))
  ok : IOK A c rs.length
theorem LstP.keep {P : Nat → Prop} {w w' : World} {A : Option Addr} {c : Nat} {rs : List (List Nat)} (h : LstP P w A c rs) (hk : Kept P w w') : LstP P w' A c rs := ⟨fun k hl => by
  obtain ⟨b, off, B, c', hA, hlt, hP, h1, h2, h3⟩ := h.at_ k hl
  exact ⟨b, off, B, c', hA, Nat.lt_of_lt_of_le hlt hk.size, hP, (World.cell?_of_block (w := w) (hk.block b hP hlt)).trans h1, h2, h3.keep hk⟩, h.ok⟩
theorem LstP.below {P : Nat → Prop} {w w' : World} {A : Option Addr} {c : Nat} {rs : List (List Nat)} (h : LstP P w A c rs) (hb : Below w.heap.size w w') : LstP P w' A c rs := h.keep (Kept.below hb)
theorem LstP.mv {D : Nat} {w w' : World} {A : Option Addr} {c : Nat} {rs : List (List Nat)} (h : LstP (· ≠ D) w A c rs) (hg : w.grownBy w' (some D)) : LstP (· ≠ D) w' A c rs := h.keep (Kept.mv hg)
theorem LstP.mono {P Q : Nat → Prop} {w : World} {A : Option Addr} {c : Nat} {rs : List (List Nat)} (h : LstP P w A c rs) (hPQ : ∀ b, b < w.heap.size → P b → Q b) : LstP Q w A c rs := ⟨fun k hk => by
  obtain ⟨b, off, B, c', hA, hlt, hP, h1, h2, h3⟩ := h.at_ k hk
  exact ⟨b, off, B, c', hA, hlt, hPQ b hlt hP, h1, h2, h3.mono hPQ⟩, h.ok⟩
theorem RowsG.lst {e : TypeId} {Q : Nat → Prop} {w : World} {base : Nat} {v : Value} {rs : List (List Nat)} (h : RowsG PhiL e Q w base v rs) : ∃ A c, v = .slice A rs.length c ∧ LstP (fun b => base ≤ b ∨ Q b) w A c rs := by
  obtain ⟨A, c, rfl, h1, h2⟩ := h.read phiL
  refine ⟨A, c, rfl, ⟨fun k hk => ?_, h1⟩⟩
  obtain ⟨b, off, u, hA, hb, hbs, hc, B, c', rfl, hS, hI⟩ := h2 k hk
  have : rs.getD k [] = rs[k] := by simp [List.getD_eq_getElem?_getD, hk]
  rw [this]
  exact ⟨b, off, B, c', hA, hb, .inl hbs, hc, hS, hI.mono (fun b _ hb => .inr hb)⟩
theorem blk_of_own {w : World} {base g n : Nat} {e : TypeId} {L : List Value} (h : w.ownsRow base e 1 (.slice (some ⟨g, 0, none⟩) n n) n L) : w.heap[g]? = some (.cells L.toArray e (0, 0)) := by
  rcases h.2 with ⟨h0, _⟩ | ⟨g', cap, cur, hv, hg, hh, hnc, hcm, hcs, htk⟩
  · cases h0
  · injection hv with h1 h2 h3
    injection h1 with h1
    injection h1 with h1
    subst h1; subst h3
    rw [hh, ← htk, Nat.mul_one, List.take_of_length_le (by simp; omega)]
theorem make_shs {ops : Array Oper} {rest : List Oper} {o : Oper} {a : Act} {Q : Exit → Act → World → Prop} (hg : o.guard = none) (l c : Operand) (hop : o.op = Op.makeSlice 35 l c)
    {w : World} {m : Int} (n : Nat) (hl : a.eval l = .int .i64 m) (hc : a.eval c = .int .i64 m) (hm : m = (n : Int)) (hn : n ≤ 1048576)
    (hK : ∀ w', w'.heap[w.heap.size]? = some (.cells (List.replicate n (Value.slice none 0 0)).toArray 31 (0, 0)) → Below w.heap.size w w' → wpList Tryd.prog ops Q rest (a.put o.dst (.slice (some ⟨w.heap.size, 0, none⟩) n n)) w') :
    wpList Tryd.prog ops Q (o :: rest) a w := by
  obtain ⟨i0, hi, hz0, hz1, hz2⟩ := info_parts info_shares
  refine wpList_make_full w hg l c 35 hop w.heap.size 31 i0 _ 1 Tryd.underlying35 hi hz0 hz1 .i64 .i64 m m n hl hc hm hm (by rw [hz2]; omega) (by simp only [maxLen]; omega) (Nat.le_refl _) ?_
  intro w' hown hgr
  refine hK w' ?_ ⟨hgr.os, hgr.tape, hgr.output, hgr.size, fun k hk => hgr.block k hk (by simp)⟩
  rw [Nat.mul_one, show (Value.slice none 0 0).cells = #[Value.slice none 0 0] from rfl, toList_madeCells_one] at hown
  exact blk_of_own hown
end Go.Proofs.YtlhipgejiacklaaDoor
