/-
  Reshare: the document's Join of anything.
  Reshare: Move of the document.
  Conditions: those that each theorem names.
-/
import Derived.Test.YtlhipgejiacklaaDoorM11
set_option linter.unusedVariables false
set_option linter.unusedSimpArgs false
namespace Go.Proofs.YtlhipgejiacklaaDoor
open Go.RowKit
attribute [local go_sem high] sliced_low run_make_int

theorem gvB_no' {h : Int} {L : List Int} (k : Nat) (hk : k < L.length) (H : ¬ GvAt h L k) : gvB h L = false := (gvB_no k hk H).symm
/-- Numbers under way: so far k of them are the sums with one share more. -/
def midV (p : Nat) (T K : List Nat) (c k : Nat) : List Nat := (List.range T.length).map fun j => if j < k then lastN p T K c j else nthN T j
theorem midV_len (p : Nat) (T K : List Nat) (c k : Nat) : (midV p T K c k).length = T.length := by simp [midV]
theorem midV_zero (p : Nat) (T K : List Nat) (c : Nat) : midV p T K c 0 = T := by
  refine List.ext_getElem (midV_len _ _ _ _ _) fun j h1 h2 => ?_
  simp [midV, nthN_eq h2]
theorem midV_nth {p : Nat} {T K : List Nat} {c k j : Nat} (hj : j < T.length) : nthN (midV p T K c k) j = if j < k then lastN p T K c j else nthN T j := by
  rw [nthN_eq (by rw [midV_len]; exact hj)]; simp [midV]
theorem midV_set {p : Nat} {T K : List Nat} {c k : Nat} (_ : k < T.length) : (midV p T K c k).set k (lastN p T K c k) = midV p T K c (k + 1) := by
  refine List.ext_getElem (by simp [midV_len]) fun j h1 h2 => ?_
  rw [List.length_set, midV_len] at h1
  rw [List.getElem_set]
  by_cases e : k = j
  · subst e
    rw [if_pos rfl]; simp [midV]
  · rw [if_neg e]
    simp only [midV, List.getElem_map, List.getElem_range]
    by_cases h3 : j < k
    · rw [if_pos h3, if_pos (by omega)]
    · rw [if_neg h3, if_neg (by omega)]
theorem midV_all {p : Nat} {T K : List Nat} {c : Nat} (h : K.length = T.length) : midV p T K c T.length = linN p T K c := by
  refine List.ext_getElem (by rw [midV_len, linN_len]; omega) fun j h1 h2 => ?_
  rw [midV_len] at h1
  have e := linN_nth (p := p) (A := T) (B := K) (c := c) (i := j) (by omega)
  rw [nthN_eq h2] at e
  rw [e]
  simp only [midV, List.getElem_map, List.getElem_range, if_pos h1]
  rfl
/-- The sum of the first shares, of full length from the start. -/
def accV (p m : Nat) (ws : List Nat) (Ls : Nat → List Nat) : Nat → List Nat
  | 0 => List.replicate m 0
  | t + 1 => linN p (accV p m ws Ls t) (Ls t) (nthN ws t)
theorem accV_len {p m : Nat} {ws : List Nat} {Ls : Nat → List Nat} : ∀ t, (∀ i, i < t → (Ls i).length = m) → (accV p m ws Ls t).length = m
  | 0, _ => by simp [accV]
  | t + 1, h => by
    simp only [accV]
    rw [linN_len, accV_len t (fun i hi => h i (by omega)), h t (by omega)]; omega
theorem nthN_rep (m j : Nat) : nthN (List.replicate m 0) j = 0 := by
  rcases Nat.lt_or_ge j m with h | h
  · rw [nthN_eq (by simpa using h)]; simp
  · unfold nthN; simp [List.getD_eq_getElem?_getD, h]
theorem accV_nth {p m : Nat} {ws : List Nat} {Ls : Nat → List Nat} (j : Nat) (hj : j < m) : ∀ t, (∀ i, i < t → (Ls i).length = m) → nthN (accV p m ws Ls t) j = nthN (joinV p ws Ls t) j
  | 0, _ => by simp only [accV, joinV]; rw [nthN_rep, nthN_nil]
  | t + 1, h => by
    simp only [accV, joinV]
    have hl := h t (by omega)
    rw [linN_nth (by omega), linN_nth (by omega), accV_nth j hj t (fun i hi => h i (by omega))]
theorem accV_join {p m : Nat} {ws : List Nat} {Ls : Nat → List Nat} {t : Nat} (ht : 0 < t) (h : ∀ i, i < t → (Ls i).length = m) : accV p m ws Ls t = joinV p ws Ls t := by
  have h1 := accV_len (p := p) (ws := ws) t h
  have h2 := joinV_len (p := p) (ws := ws) t h ht
  refine List.ext_getElem (by rw [h1, h2]) fun j g1 g2 => ?_
  have := accV_nth (p := p) (ws := ws) j (by omega) t h
  rw [nthN_eq g1, nthN_eq g2] at this; exact this
theorem accV_lt {p m : Nat} (hp : 1 ≤ p) (ws : List Nat) (Ls : Nat → List Nat) : ∀ t, ∀ x ∈ accV p m ws Ls t, x < p
  | 0 => fun x hx => by rw [(List.mem_replicate.1 hx).2]; omega
  | t + 1 => linN_lt hp

set_option maxRecDepth 100000 in
set_option maxHeartbeats 8000000 in
theorem refJoin_any {P0 : Nat → Prop} (p n h : Nat) (p' n' h' : Int) (A B : Option Addr) (F : List Int) (S : List Shr) (ca cb : Nat) (w : World) (P : PlanN p n h) (hA : IntsAt w A F) (hOK : IOK A ca F.length) (hS : ShP P0 w B cb S) (hW : ∀ k, k < S.length → (vS S k).length ≤ 2048) (hF : F.length ≤ 16) (hSl : S.length ≤ 1000) :
    Calls Tryd.prog 45 #[planV p n h, planV p' n' h', .slice A F.length ca, .slice B S.length cb] w (NewShrE (jnX p n h p' n' h' F S) (jnV p n h p' n' h' F S) (jnE p n h p' n' h' F S) w) := by
  have HPL := Lib.hid (fun (W : World) (hb : Below w.heap.size w W) => refPlans_toB p n h p' n' h' W P)
  have HA := Lib.hid hA
  have HOK := Lib.hid hOK
  have HS := Lib.hid hS
  have HW := Lib.hid hW
  have HPN := Lib.hid P
  have hn1 := P.n1
  have b1 : 1 ≤ p := P.p1
  have b2 : p ≤ 1073741824 := P.p2
  have hfc := hOK.len
  clear hA hOK hS hW
  cases hto : toB p p' n' h' with
  | false =>
    have J := Lib.hid (jn_to (n := n) (h := h) (F := F) (S := S) hto)
    rw [hto] at HPL
    clear hto P
    go_enter Tryd.func45, Tryd.ntmps45
    go_wp2_with fail
    refine gen_calls fun w1 hw1 => ?_
    have hP : PlanCell w1 w.heap.size p n h := by rw [hw1]; exact ((PlanCell.new _ _ _ rfl).alloc _).alloc _
    have hQ : PlanCell w1 (w.heap.size + 1) p' n' h' := by rw [hw1]; exact (PlanCell.new _ _ _ (by simp)).alloc _
    have hR : ShCell w1 (w.heap.size + 1 + 1) 0 (.slice none 0 0) := by rw [hw1]; exact ShCell.new _ _ (by simp)
    have hb1 : Below w.heap.size w w1 := by rw [hw1]; exact bl_alloc _ (bl_alloc _ (below_alloc _ _))
    clear hw1
    refine ret_below (HPL.out _ hb1) fun w2 hb2 => ?_
    have hbw2 := below_trans hb1 hb2
    have HP2 := Lib.hid (hP.below hb2)
    have HQ2 := Lib.hid (hQ.below hb2)
    have HR2 := Lib.hid (hR.below hb2)
    clear hP hQ hR hb1 hb2 HPL
    have hbw := hbw2
    have HRr := HR2
    have s0 := HRr.out.c0
    have s1 := HRr.out.c1
    have f0 := HRr.out.frozen 0
    have f1 := HRr.out.frozen 1
    have hz := hbw.size
    go_wp2_with fail
    refine bodyPost_ret (results_shr2 rfl _ _ (w.heap.size + 1 + 1) rfl (shcell_fill HRr.out 0 _)) rfl ?_
    rw [J.out.e, J.out.x, J.out.v]
    exact ⟨none, 0, rfl, NatsAt.nil _ _, SlOK.none0, (fun b off e => by cases e), below_set2 hbw (by omega) _ _⟩
  | true =>
    rw [hto] at HPL
    by_cases hlen : F.length = S.length
    · have t1 : ((F.length : Int) != (S.length : Int)) = false := by simp [hlen]
      have HLEN := Lib.hid hlen
      have HTO := Lib.hid hto
      obtain ⟨n1, h1, rfl, rfl, rfl, P'⟩ := toB_nat P hto
      have HPN' := Lib.hid P'
      clear hlen hto P P'
      go_enter Tryd.func45, Tryd.ntmps45
      go_wp2_with fail
      refine gen_calls fun w1 hw1 => ?_
      have hP : PlanCell w1 w.heap.size p n h := by rw [hw1]; exact ((PlanCell.new _ _ _ rfl).alloc _).alloc _
      have hQ : PlanCell w1 (w.heap.size + 1) p n1 h1 := by rw [hw1]; exact (PlanCell.new _ _ _ (by simp)).alloc _
      have hR : ShCell w1 (w.heap.size + 1 + 1) 0 (.slice none 0 0) := by rw [hw1]; exact ShCell.new _ _ (by simp)
      have hb1 : Below w.heap.size w w1 := by rw [hw1]; exact bl_alloc _ (bl_alloc _ (below_alloc _ _))
      clear hw1
      refine ret_below (HPL.out _ hb1) fun w2 hb2 => ?_
      have hbw2 := below_trans hb1 hb2
      have HP2 := Lib.hid (hP.below hb2)
      have HQ2 := Lib.hid (hQ.below hb2)
      have HR2 := Lib.hid (hR.below hb2)
      clear hP hQ hR hb1 hb2 HPL
      have p02 := HP2.out.c0
      have p12 := HP2.out.c1
      have p22 := HP2.out.c2
      go_wp2_with fail
      go_loopw [37] (fun i wr => ∃ k : Nat, k ≤ F.length ∧ i = .int .i64 k ∧ (∀ j, j < k → GvAt h F j) ∧ Below w2.heap.size w2 wr) (fun i _ => F.length - (intOf i).toNat)
      case atStart => exact ⟨0, Nat.zero_le _, rfl, fun j hj => absurd hj (by omega), Below.refl _ _⟩
      case round =>
        obtain ⟨k, hk, rfl, hpre, hbr⟩ := hrel
        have hbwr := below_trans hbw2 hbr
        have HPRE := Lib.hid hpre
        have HPr := Lib.hid (HP2.out.below hbr)
        have HRq := Lib.hid (HR2.out.below hbr)
        clear p02 p12 p22 hpre
        have p02 := HPr.out.c0
        have p12 := HPr.out.c1
        have p22 := HPr.out.c2
        by_cases hlt : k < F.length
        · obtain ⟨bA, oA, rfl, hbA, hcA⟩ := (HA.out.below hbwr) k hlt
          have HNO := Lib.hid (fun (hc : ¬ GvAt h F k) => jn_gv (p := p) (n := n) (p' := p) (n' := n1) (h' := h1) (S := S) (gvB_no' k hlt hc))
          have HGA := Lib.hid (show GvAt h F k ↔ 1 ≤ nth F k ∧ nth F k ≤ h ∧ ∀ j, j < k → nth F j ≠ nth F k from Iff.rfl)
          generalize hx : nth F k = x at *
          have HX := Lib.hid hx
          clear hx
          by_cases hx1 : 1 ≤ x
          · have d1 : decide (x < 1) = false := decide_eq_false (by omega)
            by_cases hx2 : x ≤ h
            · have d2 : decide ((h : Int) < x) = false := decide_eq_false (by omega)
              have i1 : (0 : Int) ≤ (k : Int) := by omega
              have i2 : (k : Int) ≤ (ca : Int) := by omega
              go_wp2_with fail
              go_loopw [55] (fun i wr => ∃ q : Nat, q ≤ k ∧ i = .int .i64 q ∧ (∀ j, j < q → nth F j ≠ x) ∧ Below w2.heap.size w2 wr) (fun i _ => k - (intOf i).toNat)
              case atStart => exact ⟨0, Nat.zero_le _, rfl, fun j hj => absurd hj (by omega), hbr⟩
              case round =>
                obtain ⟨q, hq, rfl, hpre2, hbr2⟩ := hrel
                have HPRE2 := Lib.hid hpre2
                have hbwr2 := below_trans hbw2 hbr2
                have HPr2 := Lib.hid (HP2.out.below hbr2)
                clear p02 p12 p22 hpre2
                have p02 := HPr2.out.c0
                have p12 := HPr2.out.c1
                have p22 := HPr2.out.c2
                by_cases hql : q < k
                · obtain ⟨bA', oA', e, hbA', hcA'⟩ := (HA.out.below hbwr2) q (by omega)
                  injection e with e
                  injection e with e1 e2
                  subst e1 e2
                  by_cases hxx : nth F q = x
                  · have J := Lib.hid (HNO.out (fun g => (HGA.out.1 g).2.2 q hql hxx))
                    rw [hxx] at hcA'
                    have hbw := hbwr2
                    have HRr := Lib.hid (HR2.out.below hbr2)
                    clear hxx
                    have s0 := HRr.out.c0
                    have s1 := HRr.out.c1
                    have f0 := HRr.out.frozen 0
                    have f1 := HRr.out.frozen 1
                    have hz := hbw.size
                    go_wp2_with fail
                    refine bodyPost_ret (results_shr2 rfl _ _ (w.heap.size + 1 + 1) rfl (shcell_fill HRr.out 0 _)) rfl ?_
                    rw [J.out.e, J.out.x, J.out.v]
                    exact ⟨none, 0, rfl, NatsAt.nil _ _, SlOK.none0, (fun b off e => by cases e), below_set2 hbw (by omega) _ _⟩
                  · have t2 : (nth F q == x) = false := by simp [hxx]
                    have HXX := Lib.hid hxx
                    generalize hyq : nth F q = y at *
                    have HYQ := Lib.hid hyq
                    clear hxx hyq
                    go_wp2_with fail
                    go_roundw
                    case rel =>
                      refine ⟨q + 1, by omega, by go_num, fun j hj => ?_, hbr2⟩
                      rcases Nat.lt_or_ge j q with h | h
                      · exact HPRE2.out j h
                      · rw [show j = q by omega, HYQ.out]; exact HXX.out
                    case measure => simp [intOf]; omega
                · obtain rfl : k = q := by omega
                  have HOKg := Lib.hid (HGA.out.2 ⟨hx1, hx2, HPRE2.out⟩)
                  go_wp2_with fail
                  go_roundw
                  case rel =>
                    refine ⟨k + 1, by omega, by go_num, fun j hj => ?_, hbr2⟩
                    rcases Nat.lt_or_ge j k with h | h
                    · exact HPRE.out j h
                    · rw [show j = k by omega]; exact HOKg.out
                  case measure => simp [intOf]; omega
            · have J := Lib.hid (HNO.out (fun g => hx2 (HGA.out.1 g).2.1))
              have d2 : decide ((h : Int) < x) = true := decide_eq_true (by omega)
              have hbw := hbwr
              have HRr := HRq
              have s0 := HRr.out.c0
              have s1 := HRr.out.c1
              have f0 := HRr.out.frozen 0
              have f1 := HRr.out.frozen 1
              have hz := hbw.size
              go_wp2_with fail
              refine bodyPost_ret (results_shr2 rfl _ _ (w.heap.size + 1 + 1) rfl (shcell_fill HRr.out 0 _)) rfl ?_
              rw [J.out.e, J.out.x, J.out.v]
              exact ⟨none, 0, rfl, NatsAt.nil _ _, SlOK.none0, (fun b off e => by cases e), below_set2 hbw (by omega) _ _⟩
          · have J := Lib.hid (HNO.out (fun g => hx1 (HGA.out.1 g).1))
            have d1 : decide (x < 1) = true := decide_eq_true (by omega)
            have hbw := hbwr
            have HRr := HRq
            have s0 := HRr.out.c0
            have s1 := HRr.out.c1
            have f0 := HRr.out.frozen 0
            have f1 := HRr.out.frozen 1
            have hz := hbw.size
            go_wp2_with fail
            refine bodyPost_ret (results_shr2 rfl _ _ (w.heap.size + 1 + 1) rfl (shcell_fill HRr.out 0 _)) rfl ?_
            rw [J.out.e, J.out.x, J.out.v]
            exact ⟨none, 0, rfl, NatsAt.nil _ _, SlOK.none0, (fun b off e => by cases e), below_set2 hbw (by omega) _ _⟩
        · obtain rfl : F.length = k := by omega
          have HGV := Lib.hid (gvB_yes HPRE.out).symm
          have HBR := Lib.hid hbr
          go_wp2_with fail
          obtain ⟨w3, hw3⟩ : ∃ w3 : World, w3 = wr := ⟨_, rfl⟩
          subst hw3
          have hbw3 := hbwr
          have HP3 := HPr
          have HR3 := HRq
          have HQ3 := Lib.hid (HQ2.out.below hbr)
          clear HPRE HPr HRq hbr hbwr
          go_loopw [67] (fun i wr => ∃ k : Nat, k ≤ S.length ∧ i = .int .i64 k ∧ (∀ j, j < k → ftE p h1 (hS S j) (vS S j) (hS S 0) (vS S 0).length = true) ∧ Below w3.heap.size w3 wr) (fun i _ => S.length - (intOf i).toNat)
          case atStart => exact ⟨0, Nat.zero_le _, rfl, fun j hj => absurd hj (by omega), Below.refl _ _⟩
          case round =>
            obtain ⟨k, hk, rfl, hpre, hbr⟩ := hrel
            have hbwr := below_trans hbw3 hbr
            have HPRE := Lib.hid hpre
            have HPr := Lib.hid (HP3.out.below hbr)
            have HRq := Lib.hid (HR3.out.below hbr)
            have HQr := Lib.hid (HQ3.out.below hbr)
            clear p02 p12 p22 hpre
            by_cases hlt : k < S.length
            · obtain ⟨b, off, B1, c1, rfl, hbl, -, x0, x1, hXI⟩ := (HS.out.below hbwr).at_ k hlt
              obtain ⟨b', off', B0, c0, hBB, hbl0, -, y0, y1, -⟩ := (HS.out.below hbwr).at_ 0 (by omega)
              injection hBB with hBB
              injection hBB with hB1 hB2
              subst hB1 hB2
              rw [Nat.zero_mul, Nat.add_zero] at y0 y1
              have hw0 := HW.out k hlt
              have HST := Lib.hid (fun (W : World) (hb : Below wr.heap.size wr W) => refStands_any p n1 h1 (hS S k) B1 (vS S k) c1 W (by rw [HPN.out.pv]; have := of_decide_eq_true HPN.out.pl; exact this.2.2.2.2) (hXI.ints.below hb) (by omega))
              have HNO := Lib.hid (fun (e : ftE p h1 (hS S k) (vS S k) (hS S 0) (vS S 0).length = false) => jn_ft (p := p) (n := n) (h := h) (n' := n1) (F := F) (ft_no hlt e))
              have i1 : (0 : Int) ≤ (k : Int) := by omega
              have i2 : (k : Int) < (S.length : Int) := by omega
              have i3 : (0 : Int) < (S.length : Int) := by omega
              generalize hxk : hS S k = x at *
              generalize hLk : vS S k = L at *
              have HXK := Lib.hid hxk
              have HLK := Lib.hid hLk
              clear hxk hLk
              generalize hS S 0 = xz at *
              generalize (vS S 0).length = lz at *
              cases hst : stB p h1 x L with
              | false =>
                have J := Lib.hid (HNO.out (by have := ftE_st (x0 := xz) (l0 := lz) hst; simpa using this.symm))
                rw [hst] at HST
                clear hst hXI
                go_wp2_with fail
                refine gen_world fun w4 hw4 => ?_
                have hsc : ShCell w4 wr.heap.size x (.slice B1 L.length c1) := by rw [hw4]; exact ShCell.new _ _ rfl
                have hb4 : Below wr.heap.size wr w4 := by rw [hw4]; exact below_alloc _ _
                have hq4 := HQr.out.below hb4
                have p0 := hq4.c0
                have p1 := hq4.c1
                have p2 := hq4.c2
                have s0 := hsc.c0
                have s1 := hsc.c1
                have g0 := (hb4.cell (p := ⟨b, off, none⟩) hbl0).trans y0
                have g1 := (hb4.cell (p := ⟨b, off + 1, none⟩) hbl0).trans y1
                have ls := hsc.lt
                have lp := hq4.lt
                have lb : b < w4.heap.size := Nat.lt_of_lt_of_le hbl0 hb4.size
                clear hw4 hsc hq4 x0 x1 y0 y1
                refine wp_region_grew (by kernel_rfl) (by kernel_rfl) ?_
                repeat (go_big_quiet_step ((go_at_call 73; exact grew_of (HST.out _ (below_trans hb4 (grewW.below _ _))))))
                refine wpQuiet_nil ?_
                intro w5 hb5
                have hb45 := below_trans hb4 hb5
                have hbw := below_trans hbwr hb45
                have HRr := Lib.hid (HRq.out.below hb45)
                have s0 := HRr.out.c0
                have s1 := HRr.out.c1
                have f0 := HRr.out.frozen 0
                have f1 := HRr.out.frozen 1
                have hz := hbw.size
                go_wp2_with fail
                refine bodyPost_ret (results_shr2 rfl _ _ (w.heap.size + 1 + 1) rfl (shcell_fill HRr.out 0 _)) rfl ?_
                rw [J.out.e, J.out.x, J.out.v]
                exact ⟨none, 0, rfl, NatsAt.nil _ _, SlOK.none0, (fun b off e => by cases e), below_set2 hbw (by omega) _ _⟩
              | true =>
                rw [hst] at HST
                by_cases hx : x = xz
                · by_cases hll : L.length = lz
                  · have HV := Lib.hid (show ftE p h1 x L xz lz = true by have := ftE_ok hst hx hll; simpa using this.symm)
                    have t2 : (x != xz) = false := by simp [hx]
                    have t3 : ((L.length : Int) != (lz : Int)) = false := by simp [hll]
                    clear hst hx hll hXI
                    go_wp2_with fail
                    refine gen_world fun w4 hw4 => ?_
                    have hsc : ShCell w4 wr.heap.size x (.slice B1 L.length c1) := by rw [hw4]; exact ShCell.new _ _ rfl
                    have hb4 : Below wr.heap.size wr w4 := by rw [hw4]; exact below_alloc _ _
                    have hq4 := HQr.out.below hb4
                    have p0 := hq4.c0
                    have p1 := hq4.c1
                    have p2 := hq4.c2
                    have s0 := hsc.c0
                    have s1 := hsc.c1
                    have g0 := (hb4.cell (p := ⟨b, off, none⟩) hbl0).trans y0
                    have g1 := (hb4.cell (p := ⟨b, off + 1, none⟩) hbl0).trans y1
                    have ls := hsc.lt
                    have lp := hq4.lt
                    have lb : b < w4.heap.size := Nat.lt_of_lt_of_le hbl0 hb4.size
                    clear hw4 hsc hq4 x0 x1 y0 y1
                    refine wp_region_grew (by kernel_rfl) (by kernel_rfl) ?_
                    repeat (go_big_quiet_step ((go_at_call 73; exact grew_of (HST.out _ (below_trans hb4 (grewW.below _ _))))))
                    refine wpQuiet_nil ?_
                    intro w5 hb5
                    have hb45 := below_trans hb4 hb5
                    have HBN := Lib.hid (hbr.trans (hb45.mono hbr.size))
                    go_wp2_with fail
                    go_roundw
                    case rel =>
                      refine ⟨k + 1, by omega, by go_num, fun j hj => ?_, HBN.out⟩
                      rcases Nat.lt_or_ge j k with h | h
                      · exact HPRE.out j h
                      · rw [show j = k by omega, HXK.out, HLK.out]; exact HV.out
                    case measure => simp [intOf]; omega
                  · have J := Lib.hid (HNO.out (by have := ftE_l (p := p) (h := h1) (x := x) (x0 := xz) hll; simpa using this.symm))
                    have t2 : (x != xz) = false := by simp [hx]
                    have t3 : ((L.length : Int) != (lz : Int)) = true := by simp; omega
                    clear hst hx hll hXI
                    go_wp2_with fail
                    refine gen_world fun w4 hw4 => ?_
                    have hsc : ShCell w4 wr.heap.size x (.slice B1 L.length c1) := by rw [hw4]; exact ShCell.new _ _ rfl
                    have hb4 : Below wr.heap.size wr w4 := by rw [hw4]; exact below_alloc _ _
                    have hq4 := HQr.out.below hb4
                    have p0 := hq4.c0
                    have p1 := hq4.c1
                    have p2 := hq4.c2
                    have s0 := hsc.c0
                    have s1 := hsc.c1
                    have g0 := (hb4.cell (p := ⟨b, off, none⟩) hbl0).trans y0
                    have g1 := (hb4.cell (p := ⟨b, off + 1, none⟩) hbl0).trans y1
                    have ls := hsc.lt
                    have lp := hq4.lt
                    have lb : b < w4.heap.size := Nat.lt_of_lt_of_le hbl0 hb4.size
                    clear hw4 hsc hq4 x0 x1 y0 y1
                    refine wp_region_grew (by kernel_rfl) (by kernel_rfl) ?_
                    repeat (go_big_quiet_step ((go_at_call 73; exact grew_of (HST.out _ (below_trans hb4 (grewW.below _ _))))))
                    refine wpQuiet_nil ?_
                    intro w5 hb5
                    have hb45 := below_trans hb4 hb5
                    have hbw := below_trans hbwr hb45
                    have HRr := Lib.hid (HRq.out.below hb45)
                    have s0 := HRr.out.c0
                    have s1 := HRr.out.c1
                    have f0 := HRr.out.frozen 0
                    have f1 := HRr.out.frozen 1
                    have hz := hbw.size
                    go_wp2_with fail
                    refine bodyPost_ret (results_shr2 rfl _ _ (w.heap.size + 1 + 1) rfl (shcell_fill HRr.out 0 _)) rfl ?_
                    rw [J.out.e, J.out.x, J.out.v]
                    exact ⟨none, 0, rfl, NatsAt.nil _ _, SlOK.none0, (fun b off e => by cases e), below_set2 hbw (by omega) _ _⟩
                · have J := Lib.hid (HNO.out (by have := ftE_x (p := p) (h := h1) (L := L) (l0 := lz) hx; simpa using this.symm))
                  have t2 : (x != xz) = true := by simp [hx]
                  clear hst hx hXI
                  go_wp2_with fail
                  refine gen_world fun w4 hw4 => ?_
                  have hsc : ShCell w4 wr.heap.size x (.slice B1 L.length c1) := by rw [hw4]; exact ShCell.new _ _ rfl
                  have hb4 : Below wr.heap.size wr w4 := by rw [hw4]; exact below_alloc _ _
                  have hq4 := HQr.out.below hb4
                  have p0 := hq4.c0
                  have p1 := hq4.c1
                  have p2 := hq4.c2
                  have s0 := hsc.c0
                  have s1 := hsc.c1
                  have g0 := (hb4.cell (p := ⟨b, off, none⟩) hbl0).trans y0
                  have g1 := (hb4.cell (p := ⟨b, off + 1, none⟩) hbl0).trans y1
                  have ls := hsc.lt
                  have lp := hq4.lt
                  have lb : b < w4.heap.size := Nat.lt_of_lt_of_le hbl0 hb4.size
                  clear hw4 hsc hq4 x0 x1 y0 y1
                  refine wp_region_grew (by kernel_rfl) (by kernel_rfl) ?_
                  repeat (go_big_quiet_step ((go_at_call 73; exact grew_of (HST.out _ (below_trans hb4 (grewW.below _ _))))))
                  refine wpQuiet_nil ?_
                  intro w5 hb5
                  have hb45 := below_trans hb4 hb5
                  have hbw := below_trans hbwr hb45
                  have HRr := Lib.hid (HRq.out.below hb45)
                  have s0 := HRr.out.c0
                  have s1 := HRr.out.c1
                  have f0 := HRr.out.frozen 0
                  have f1 := HRr.out.frozen 1
                  have hz := hbw.size
                  go_wp2_with fail
                  refine bodyPost_ret (results_shr2 rfl _ _ (w.heap.size + 1 + 1) rfl (shcell_fill HRr.out 0 _)) rfl ?_
                  rw [J.out.e, J.out.x, J.out.v]
                  exact ⟨none, 0, rfl, NatsAt.nil _ _, SlOK.none0, (fun b off e => by cases e), below_set2 hbw (by omega) _ _⟩
            · obtain rfl : S.length = k := by omega
              have HFT := Lib.hid (ft_yes HPRE.out)
              have q02 := HPr.out.c0
              have q12 := HPr.out.c1
              have q22 := HPr.out.c2
              by_cases hl : F.length < n
              · have J := Lib.hid (jn_few HTO.out HGV.out HLEN.out HFT.out hl)
                have hli : (F.length : Int) < (n : Int) := by omega
                have hbw := hbwr
                have HRr := HRq
                have s0 := HRr.out.c0
                have s1 := HRr.out.c1
                have f0 := HRr.out.frozen 0
                have f1 := HRr.out.frozen 1
                have hz := hbw.size
                go_wp2_with fail
                refine bodyPost_ret (results_shr2 rfl _ _ (w.heap.size + 1 + 1) rfl (shcell_fill HRr.out 0 _)) rfl ?_
                rw [J.out.e, J.out.x, J.out.v]
                exact ⟨none, 0, rfl, NatsAt.nil _ _, SlOK.none0, (fun b off e => by cases e), below_set2 hbw (by omega) _ _⟩
              · have J := Lib.hid (jn_ok HTO.out HGV.out HLEN.out HFT.out hl)
                have hli : ¬ (F.length : Int) < (n : Int) := by omega
                obtain ⟨hF1, hF2, hF3⟩ := gv_of HGV.out
                obtain ⟨hS1, y, m, hp, hm, hy⟩ := fits_of HFT.out (by have := HPN'.out.n1; have := HPN'.out.nh; omega) HW.out
                have hF0 : 0 < F.length := by omega
                have hS0 : 0 < S.length := by have := HLEN.out; omega
                have HY := Lib.hid (hy hS0)
                have HPT := Lib.hid hp
                have hNA : NatsAt w3 A (F.map Int.toNat) := IntsAt.nats (by rw [← hF1]; exact HA.out.below hbw3)
                have HWG := Lib.hid (fun (W : World) (hb : Below w3.heap.size w3 W) => show Calls Tryd.prog 78 #[.int .i64 p, .slice A F.length ca, .int .i64 0] W (ListErr (wsN p (F.map Int.toNat) 0) 0 W) from by
                  have hck : ckE (F.map Int.toNat) = 0 := ckE_ok (by rw [List.length_map]; omega) hF2
                  have := refWeights_any p A (F.map Int.toNat) ca 0 W HPN.out.pr (by omega) (hNA.below hb) ⟨by simpa using HOK.out.len, HOK.out.cap, HOK.out.nil, HOK.out.spot.resolve_left (by omega)⟩ (fun z hz => by have := (hF3 z hz).2; have := HPN.out.hp; omega) (by simp; omega) (by omega)
                  rw [wsR_ok hck, hck, List.length_map] at this; exact this)
                have HWL : Hid ((wsN p (F.map Int.toNat) 0).length = F.length) := Lib.hid (by rw [wsN_len]; simp)
                have HWP := Lib.hid (wsN_lt b1 (F.map Int.toNat) 0)
                have HBR3 := Lib.hid hbr
                have HS1 := Lib.hid hS1
                clear hF1 hF2 hF3 hS1 hp hy hNA
                generalize wsN p (F.map Int.toNat) 0 = ws at *
                go_wp2_with fail
                refine (HWG.out _ hbr).mono ?_
                rintro e w6 ⟨WA, wc, rfl, hWN, hWS, hWo, hb6⟩
                have hb36 := below_trans hbr hb6
                have hbw6 := below_trans hbw3 hb36
                obtain ⟨b, off, B0, c0, rfl, hbl0, -, y0, y1, -⟩ := (HS.out.below hbw6).at_ 0 hS0
                rw [Nat.zero_mul, Nat.add_zero] at y0 y1
                rw [(HY.out).2] at y1
                rw [← (HY.out).1] at y0
                have HWN := Lib.hid hWN
                have HP6 := Lib.hid (HP3.out.below hb36)
                have HR6 := Lib.hid (HR3.out.below hb36)
                have i3 : (0 : Int) < (S.length : Int) := by omega
                have hmk : m ≤ 1099511627776 := by omega
                clear hWN hWS hWo hb6 q02 q12 q22 HWG HRq HPr HQr hbwr
                go_wp2_with fail
                have Y0 := Lib.hid y0
                have Y1 := Lib.hid y1
                have LB := Lib.hid hbl0
                have HSN : Hid (ShP P0 w6 (some ⟨b, off, none⟩) cb (shL (natL S))) := Lib.hid (by rw [← HS1.out]; exact HS.out.below hbw6)
                clear y0 y1 hbl0 hbr HBR3
                refine wp_region_J2 (GI (R := fun _ _ => True) [Pr.eq (.slice (some ⟨b, off, none⟩) S.length cb), Pr.eq (.pointer (some ⟨b, off, none⟩)), Pr.eq (.pointer (some ⟨b, off, none⟩)), Pr.eq (.int .i64 (y : Int)), Pr.eq (.slice (some ⟨b, off, none⟩) S.length cb), Pr.eq (.pointer (some ⟨b, off, none⟩)), Pr.eq (.pointer (some ⟨b, off + 1, none⟩)), Pr.eq (.slice B0 m c0), Pr.eq (.int .i64 (m : Int)), Pr.any, Pr.any, Pr.any, Pr.any] (JoS w6 y m)) (by kernel_rfl) (by kernel_rfl) (by kernel_rfl) ?_ ?_ ?_
                case refine_1 => exact fun V => GI.start (JoS.start V)
                case refine_2 =>
                  refine JSteps.cons (fun V Ld a W hLi hpre hR hI KK hK => ?_) ?_
                  · have o3 := (hR.old 3 (by kernel_rfl)).trans (show _ = Value.slice (some ⟨b, off, none⟩) S.length cb from rfl)
                    exact G_move rfl (.tmp 3) rfl o3 (hK _ _ (hI.put0 0 rfl rfl (hI.st.mv _ (by decide))))
                  refine JSteps.cons (fun V Ld a W hLi hpre hR hI KK hK => ?_) ?_
                  · have p0 : Ld 0 = true := hpre 0 (List.mem_of_elem_eq_true (by kernel_rfl))
                    have f0 := (hR.ev 0 rfl rfl p0).trans (hI.val 0 _ rfl p0)
                    exact J_indexAddr rfl _ (.tmp 110) (.const (.int .i64 0)) rfl (by rw [f0]; go_simp <;> (intro h; omega)) (hK _ _ (hI.put0 1 rfl rfl (hI.st.mv _ (by decide))))
                  refine JSteps.cons (fun V Ld a W hLi hpre hR hI KK hK => ?_) ?_
                  · have p1 : Ld 1 = true := hpre 1 (List.mem_of_elem_eq_true (by kernel_rfl))
                    have f1 := (hR.ev 1 rfl rfl p1).trans (hI.val 1 _ rfl p1)
                    exact J_fieldAddr rfl _ (.tmp 111) 0 rfl (by rw [f1]; go_simp) (hK _ _ (hI.put0 2 rfl rfl (hI.st.mv _ (by decide))))
                  refine JSteps.cons (fun V Ld a W hLi hpre hR hI KK hK => ?_) ?_
                  · have p2 : Ld 2 = true := hpre 2 (List.mem_of_elem_eq_true (by kernel_rfl))
                    have f2 := (hR.ev 2 rfl rfl p2).trans (hI.val 2 _ rfl p2)
                    have c0 := (hI.st.b.cell LB.out).trans Y0.out
                    exact J_load rfl _ (.tmp 112) rfl (by rw [f2]; go_simp) (hK _ _ (hI.put0 3 rfl rfl (hI.st.mv _ (by decide))))
                  refine JSteps.cons (fun V Ld a W hLi hpre hR hI KK hK => ?_) ?_
                  · have o3 := (hR.old 3 (by kernel_rfl)).trans (show _ = Value.slice (some ⟨b, off, none⟩) S.length cb from rfl)
                    exact G_move rfl (.tmp 3) rfl o3 (hK _ _ (hI.put0 4 rfl rfl (hI.st.mv _ (by decide))))
                  refine JSteps.cons (fun V Ld a W hLi hpre hR hI KK hK => ?_) ?_
                  · have p4 : Ld 4 = true := hpre 4 (List.mem_of_elem_eq_true (by kernel_rfl))
                    have f4 := (hR.ev 4 rfl rfl p4).trans (hI.val 4 _ rfl p4)
                    exact J_indexAddr rfl _ (.tmp 114) (.const (.int .i64 0)) rfl (by rw [f4]; go_simp <;> (intro h; omega)) (hK _ _ (hI.put0 5 rfl rfl (hI.st.mv _ (by decide))))
                  refine JSteps.cons (fun V Ld a W hLi hpre hR hI KK hK => ?_) ?_
                  · have p5 : Ld 5 = true := hpre 5 (List.mem_of_elem_eq_true (by kernel_rfl))
                    have f5 := (hR.ev 5 rfl rfl p5).trans (hI.val 5 _ rfl p5)
                    exact J_fieldAddr rfl _ (.tmp 115) 1 rfl (by rw [f5]; go_simp) (hK _ _ (hI.put0 6 rfl rfl (hI.st.mv _ (by decide))))
                  refine JSteps.cons (fun V Ld a W hLi hpre hR hI KK hK => ?_) ?_
                  · have p6 : Ld 6 = true := hpre 6 (List.mem_of_elem_eq_true (by kernel_rfl))
                    have f6 := (hR.ev 6 rfl rfl p6).trans (hI.val 6 _ rfl p6)
                    have c0 := (hI.st.b.cell LB.out).trans Y1.out
                    exact J_load rfl _ (.tmp 116) rfl (by rw [f6]; go_simp) (hK _ _ (hI.put0 7 rfl rfl (hI.st.mv _ (by decide))))
                  refine JSteps.cons (fun V Ld a W hLi hpre hR hI KK hK => ?_) ?_
                  · have p7 : Ld 7 = true := hpre 7 (List.mem_of_elem_eq_true (by kernel_rfl))
                    have f7 := (hR.ev 7 rfl rfl p7).trans (hI.val 7 _ rfl p7)
                    exact G_len rfl (.tmp 117) _ rfl (by rw [f7]; go_simp) (hK _ _ (hI.put0 8 rfl rfl (hI.st.mv _ (by decide))))
                  refine JSteps.cons (fun V Ld a W hLi hpre hR hI KK hK => ?_) ?_
                  · have p8 : Ld 8 = true := hpre 8 (List.mem_of_elem_eq_true (by kernel_rfl))
                    have f8 := (hR.ev 8 rfl rfl p8).trans (hI.val 8 _ rfl p8)
                    exact J_make rfl _ (.tmp 118) (.tmp 118) rfl (by rw [f8]; exact run_make_int m W hmk) (hK _ _ (hI.put trivial 9 rfl trivial (hI.st.om hLi (nat_blk0 _ _))))
                  refine JSteps.cons (fun V Ld a W hLi hpre hR hI KK hK => ?_) ?_
                  · have p3 : Ld 3 = true := hpre 3 (List.mem_of_elem_eq_true (by kernel_rfl))
                    have f3 := (hR.ev 3 rfl rfl p3).trans (hI.val 3 _ rfl p3)
                    have p9 : Ld 9 = true := hpre 9 (List.mem_of_elem_eq_true (by kernel_rfl))
                    obtain ⟨vb, k1, -⟩ := hI.st.nu p9
                    exact J_build rfl _ _ rfl (by simp only [List.map_toArray, List.map_cons, List.map_nil, f3, hR.ev 9 rfl rfl p9, k1]; exact bd_shr W y (some ⟨vb, 0, none⟩) m m) (hK _ _ (hI.put0 10 rfl trivial (by have h0 := hI.st.ob p9 hLi; rw [k1] at h0; exact h0)))
                  refine JSteps.cons (fun V Ld a W hLi hpre hR hI KK hK => ?_) ?_
                  · exact J_alloc rfl _ rfl (al_shr W) (hK _ _ (hI.put trivial 11 rfl trivial (hI.st.oa hLi)))
                  refine JSteps.cons (fun V Ld a W hLi hpre hR hI KK hK => ?_) trivial
                  · have p11 : Ld 11 = true := hpre 11 (List.mem_of_elem_eq_true (by kernel_rfl))
                    have p10 : Ld 10 = true := hpre 10 (List.mem_of_elem_eq_true (by kernel_rfl))
                    obtain ⟨w', hr, hn⟩ := hI.st.os p10 p11 hLi
                    exact J_store rfl _ (.tmp 18) (.tmp 120) rfl (by rw [hR.ev 11 rfl rfl p11, hR.ev 10 rfl rfl p10]; exact hr) (hK _ _ (hI.put trivial 12 rfl trivial (hn _)))
                case refine_3 =>
                  intro V Ld w9 hLd hI
                  obtain ⟨vb, nb, e11, hvb, hnb, hvn, hV, hNC, hb9⟩ := hI.st.fin (hLd 12 (by decide))
                  clear hI hLd
                  simp only [finL, putL, Act.put, Nat.reduceAdd]
                  rw [e11]
                  clear e11
                  generalize V 0 = v0
                  generalize V 1 = v1
                  generalize V 2 = v2
                  generalize V 3 = v3
                  generalize V 4 = v4
                  generalize V 5 = v5
                  generalize V 6 = v6
                  generalize V 7 = v7
                  generalize V 8 = v8
                  generalize V 9 = v9
                  generalize V 10 = v10
                  clear V
                  simp only [List.setIfInBounds_toArray, List.set_cons_succ, List.set_cons_zero]
                  have HNB := Lib.hid hNC
                  have HVB := Lib.hid hV
                  have HB9 := Lib.hid hb9
                  have hbw9 := below_trans hbw6 hb9
                  have HWB := Lib.hid hbw9
                  have hwv : w.heap.size ≤ vb := Nat.le_trans hbw6.size hvb
                  have HACL := Lib.hid (fun t (h : t ≤ S.length) => accV_len (p := p) (ws := ws) (Ls := fun i => vN (natL S) i) (m := m) t (fun i hi => HPT.out.len i (by rw [natL_len]; omega)))
                  have hw6 : w.heap.size + 1 + 1 < w6.heap.size := HR6.out.lt
                  clear hV hNC hb9
                  go_wp2_with fail
                  go_loopw [123] (fun i wr => ∃ t : Nat, t ≤ S.length ∧ i = .int .i64 t ∧ Below w6.heap.size w6 wr ∧ NatBlk wr vb (accV p m ws (fun i => vN (natL S) i) t) ∧ ShCell wr nb y (.slice (some ⟨vb, 0, none⟩) m m)) (fun i _ => S.length - (intOf i).toNat)
                  case atStart => exact ⟨0, Nat.zero_le _, rfl, HB9.out, HVB.out, HNB.out⟩
                  case round =>
                    obtain ⟨t, ht, rfl, hbr, hT, hNC⟩ := hrel
                    have HBR := Lib.hid hbr
                    have HN4 := Lib.hid hNC
                    have HT4 := Lib.hid hT
                    by_cases htl : t < S.length
                    · have hti : (t : Int) < (S.length : Int) := by omega
                      have t0 : (0 : Int) ≤ (t : Int) := by omega
                      have htN : t < (natL S).length := by rw [natL_len]; exact htl
                      obtain ⟨b', off', B1, c1, hbe, hbl, -, x0, x1, hNK, -⟩ := HSN.out.nat htN
                      injection hbe with hbe
                      injection hbe with e1 e2
                      subst e1 e2
                      have hKl := HPT.out.len t htN
                      have hKp := HPT.out.lt t htN
                      have hTl := HACL.out t ht
                      have hTp := accV_lt (p := p) (m := m) b1 ws (fun i => vN (natL S) i) t
                      have HNX := Lib.hid (show accV p m ws (fun i => vN (natL S) i) (t + 1) = linN p (accV p m ws (fun i => vN (natL S) i) t) (vN (natL S) t) (nthN ws t) from rfl)
                      have hcp := nthN_lt b1 HWP.out t
                      obtain ⟨bW, oW, rfl, hbW, hcW⟩ := HWN.out t (by have := HLEN.out; have := HWL.out; omega)
                      generalize hN (natL S) t = hy at *
                      generalize vN (natL S) t = Kt at *
                      generalize accV p m ws (fun i => vN (natL S) i) t = T at *
                      generalize nthN ws t = c at *
                      replace x0 := (hbr.cell (p := ⟨b, off + t * 2, none⟩) hbl).trans x0
                      replace x1 := (hbr.cell (p := ⟨b, off + t * 2 + 1, none⟩) hbl).trans x1
                      have hblr : b < wr.heap.size := Nat.lt_of_lt_of_le hbl hbr.size
                      have HKL := Lib.hid hKl
                      have HTL := Lib.hid hTl
                      have HNK := Lib.hid hNK
                      have HKP := Lib.hid hKp
                      have HTP := Lib.hid hTp
                      have HWC := Lib.hid hcW
                      have LBW := Lib.hid hbW
                      clear hTl hKl hNK hKp hTp hcW hbW hT hNC hbl
                      rw [HKL.out] at x1
                      go_wp2_with fail
                      refine gen_world fun w7 hw7 => ?_
                      have hb7 : Below wr.heap.size wr w7 := by rw [hw7]; exact below_alloc _ _
                      have HB7 := Lib.hid (below_trans HBR.out hb7)
                      have HT7 := Lib.hid (HT4.out.below hb7)
                      have HN7 := Lib.hid (HN4.out.below hb7)
                      clear hw7 hb7 x0 x1 hblr hbr
                      go_loopw [131] (fun i wr => ∃ k : Nat, k ≤ m ∧ i = .int .i64 k ∧ Below w6.heap.size w6 wr ∧ NatBlk wr vb (midV p T Kt c k) ∧ ShCell wr nb y (.slice (some ⟨vb, 0, none⟩) m m)) (fun i _ => m - (intOf i).toNat)
                      case atStart => exact ⟨0, Nat.zero_le _, rfl, HB7.out, by rw [midV_zero]; exact HT7.out, HN7.out⟩
                      case round =>
                        obtain ⟨k, hk, rfl, hbr, hM, hNC⟩ := hrel
                        have HBR2 := Lib.hid hbr
                        have HM := Lib.hid hM
                        have HN5 := Lib.hid hNC
                        by_cases hkm : k < m
                        · have hkmi : (k : Int) < (m : Int) := by omega
                          have k0 : (0 : Int) ≤ (k : Int) := by omega
                          obtain ⟨bK, oK, rfl, hbK, hcK⟩ := HNK.out k (by rw [HKL.out]; exact hkm)
                          replace hcK := (hbr.cell (p := ⟨bK, oK + k, none⟩) hbK).trans hcK
                          have hbK2 : bK < wr.heap.size := Nat.lt_of_lt_of_le hbK hbr.size
                          have hmx : nthN (midV p T Kt c k) k = nthN T k := by rw [midV_nth (by rw [HTL.out]; exact hkm), if_neg (by omega)]
                          have hTC := hM.cell k (by rw [midV_len, HTL.out]; exact hkm)
                          rw [hmx] at hTC
                          have hzp := nthN_lt b1 HKP.out k
                          have hxp := nthN_lt b1 HTP.out k
                          have hmb := mulN_bound hcp hzp (by omega)
                          have HRR : Hid ((((nthN T k : Nat) : Int) + ((c * nthN Kt k : Nat) : Int)).tmod p = (lastN p T Kt c k : Nat)) := Lib.hid (by
                            rw [← Int.natCast_add, Int.tmod_eq_emod_of_nonneg (by omega), ← Int.natCast_emod, lin_both])
                          have HMS := Lib.hid (fun (W : World) (hW : NatBlk W vb (midV p T Kt c k)) => show NatBlk (W.setCell ⟨vb, k, none⟩ (.int .i64 ((lastN p T Kt c k : Nat) : Int))) vb (midV p T Kt c (k + 1)) from by
                            have h0 := hW.set_ k (lastN p T Kt c k)
                            rw [midV_set (by rw [HTL.out]; exact hkm)] at h0; exact h0)
                          obtain ⟨mu, hmu⟩ : ∃ mu : Int, ((c * nthN Kt k : Nat) : Int) = mu := ⟨_, rfl⟩
                          have MU : Hid ((c : Int) * ((nthN Kt k : Nat) : Int) = mu) := Lib.hid (by rw [← hmu]; push_cast; rfl)
                          have MU1 : Hid (-9223372036854775808 ≤ mu) := Lib.hid (by omega)
                          have MU2 : Hid (mu ≤ 9223372036854775807) := Lib.hid (by omega)
                          have mu4 : mu ≤ 4611686018427387904 := by omega
                          have mu0 : 0 ≤ mu := by omega
                          rw [hmu] at HRR
                          generalize lastN p T Kt c k = r at *
                          generalize nthN T k = xk at *
                          generalize nthN Kt k = z at *
                          obtain ⟨su, hsu⟩ : ∃ su : Int, (xk : Int) + mu = su := ⟨_, rfl⟩
                          have SU := Lib.hid hsu
                          have SU1 : Hid (-9223372036854775808 ≤ su) := Lib.hid (by omega)
                          have SU2 : Hid (su ≤ 9223372036854775807) := Lib.hid (by omega)
                          rw [hsu] at HRR
                          have RR := HRR
                          have htwi : (t : Int) < (ws.length : Int) := by have := HLEN.out; have := HWL.out; omega
                          have TC := Lib.hid hTC
                          have TF := Lib.hid (hM.frozen k)
                          have N1 := Lib.hid hNC.c1
                          have NE1 : Hid (nb ≠ vb) := Lib.hid (fun e => hvn e.symm)
                          have NE2 : Hid (bW ≠ vb) := Lib.hid (by have := LBW.out; omega)
                          have NE3 : Hid (w.heap.size ≠ vb) := Lib.hid (by omega)
                          have WC := Lib.hid ((hbr.cell (p := ⟨bW, oW + t, none⟩) LBW.out).trans HWC.out)
                          have PC := Lib.hid ((HP6.out.below hbr).c0)
                          clear hsu hmu mu4 mu0 hmb hzp hxp hTC hmx hM hNC hbr
                          go_wp2_with fail
                          refine wp_region_J2 (GI (R := fun _ _ => True) [Pr.eq (.pointer (some ⟨nb, 1, none⟩)), Pr.eq (.slice (some ⟨vb, 0, none⟩) m m), Pr.eq (.int .i64 (k : Int)), Pr.eq (.pointer (some ⟨nb, 1, none⟩)), Pr.eq (.slice (some ⟨vb, 0, none⟩) m m), Pr.eq (.int .i64 (k : Int)), Pr.eq (.pointer (some ⟨vb, k, none⟩)), Pr.eq (.int .i64 (xk : Int)), Pr.eq (.slice (some ⟨bW, oW, none⟩) ws.length wc), Pr.eq (.int .i64 (t : Int)), Pr.eq (.pointer (some ⟨bW, oW + t, none⟩)), Pr.eq (.int .i64 (c : Int)), Pr.eq (.int .i64 (z : Int)), Pr.eq (.int .i64 mu), Pr.eq (.int .i64 su), Pr.eq (.pointer (some ⟨w.heap.size, 0, none⟩)), Pr.eq (.int .i64 (p : Int)), Pr.eq (.int .i64 (r : Int)), Pr.eq (.pointer (some ⟨vb, k, none⟩)), Pr.any] (StS wr ⟨vb, k, none⟩ (.int .i64 (r : Int)))) (by kernel_rfl) (by kernel_rfl) (by kernel_rfl) ?_ ?_ ?_
                          case refine_1 => exact fun V => GI.start (StS.start V)
                          case refine_2 =>
                            refine JSteps.cons (fun V Ld a W hLi hpre hR hI KK hK => ?_) ?_
                            · have o18 := (hR.old 18 (by kernel_rfl)).trans (show _ = Value.pointer (some ⟨nb, 0, none⟩) from rfl)
                              exact J_fieldAddr rfl _ (.tmp 18) 1 rfl (by rw [o18]; go_simp) (hK _ _ (hI.put0 0 rfl rfl (hI.st.mv _ (by decide))))
                            refine JSteps.cons (fun V Ld a W hLi hpre hR hI KK hK => ?_) ?_
                            · have p0 : Ld 0 = true := hpre 0 (List.mem_of_elem_eq_true (by kernel_rfl))
                              have f0 := (hR.ev 0 rfl rfl p0).trans (hI.val 0 _ rfl p0)
                              have c0 := hI.st.cell N1.out NE1.out
                              exact J_load rfl _ (.tmp 136) rfl (by rw [f0]; go_simp) (hK _ _ (hI.put0 1 rfl rfl (hI.st.mv _ (by decide))))
                            refine JSteps.cons (fun V Ld a W hLi hpre hR hI KK hK => ?_) ?_
                            · have o21 := (hR.old 21 (by kernel_rfl)).trans (show _ = Value.int .i64 (k : Int) from rfl)
                              exact G_move rfl (.tmp 21) rfl o21 (hK _ _ (hI.put0 2 rfl rfl (hI.st.mv _ (by decide))))
                            refine JSteps.cons (fun V Ld a W hLi hpre hR hI KK hK => ?_) ?_
                            · have o18 := (hR.old 18 (by kernel_rfl)).trans (show _ = Value.pointer (some ⟨nb, 0, none⟩) from rfl)
                              exact J_fieldAddr rfl _ (.tmp 18) 1 rfl (by rw [o18]; go_simp) (hK _ _ (hI.put0 3 rfl rfl (hI.st.mv _ (by decide))))
                            refine JSteps.cons (fun V Ld a W hLi hpre hR hI KK hK => ?_) ?_
                            · have p3 : Ld 3 = true := hpre 3 (List.mem_of_elem_eq_true (by kernel_rfl))
                              have f3 := (hR.ev 3 rfl rfl p3).trans (hI.val 3 _ rfl p3)
                              have c0 := hI.st.cell N1.out NE1.out
                              exact J_load rfl _ (.tmp 139) rfl (by rw [f3]; go_simp) (hK _ _ (hI.put0 4 rfl rfl (hI.st.mv _ (by decide))))
                            refine JSteps.cons (fun V Ld a W hLi hpre hR hI KK hK => ?_) ?_
                            · have o21 := (hR.old 21 (by kernel_rfl)).trans (show _ = Value.int .i64 (k : Int) from rfl)
                              exact G_move rfl (.tmp 21) rfl o21 (hK _ _ (hI.put0 5 rfl rfl (hI.st.mv _ (by decide))))
                            refine JSteps.cons (fun V Ld a W hLi hpre hR hI KK hK => ?_) ?_
                            · have p4 : Ld 4 = true := hpre 4 (List.mem_of_elem_eq_true (by kernel_rfl))
                              have f4 := (hR.ev 4 rfl rfl p4).trans (hI.val 4 _ rfl p4)
                              have p5 : Ld 5 = true := hpre 5 (List.mem_of_elem_eq_true (by kernel_rfl))
                              have f5 := (hR.ev 5 rfl rfl p5).trans (hI.val 5 _ rfl p5)
                              exact J_indexAddr rfl _ (.tmp 140) (.tmp 141) rfl (by rw [f4, f5]; go_simp <;> (intro h; omega)) (hK _ _ (hI.put0 6 rfl rfl (hI.st.mv _ (by decide))))
                            refine JSteps.cons (fun V Ld a W hLi hpre hR hI KK hK => ?_) ?_
                            · have p6 : Ld 6 = true := hpre 6 (List.mem_of_elem_eq_true (by kernel_rfl))
                              have f6 := (hR.ev 6 rfl rfl p6).trans (hI.val 6 _ rfl p6)
                              have eW := hI.st.n7 hLi
                              have c0 : W.cell? ⟨vb, k, none⟩ = some (.int .i64 (xk : Int)) := by rw [eW]; exact TC.out
                              clear eW
                              exact J_load rfl _ (.tmp 142) rfl (by rw [f6]; go_simp) (hK _ _ (hI.put0 7 rfl rfl (hI.st.o7 hLi)))
                            refine JSteps.cons (fun V Ld a W hLi hpre hR hI KK hK => ?_) ?_
                            · have o16 := (hR.old 16 (by kernel_rfl)).trans (show _ = Value.slice (some ⟨bW, oW, none⟩) ws.length wc from rfl)
                              exact G_move rfl (.tmp 16) rfl o16 (hK _ _ (hI.put0 8 rfl rfl (hI.st.mv _ (by decide))))
                            refine JSteps.cons (fun V Ld a W hLi hpre hR hI KK hK => ?_) ?_
                            · have o19 := (hR.old 19 (by kernel_rfl)).trans (show _ = Value.int .i64 (t : Int) from rfl)
                              exact G_move rfl (.tmp 19) rfl o19 (hK _ _ (hI.put0 9 rfl rfl (hI.st.mv _ (by decide))))
                            refine JSteps.cons (fun V Ld a W hLi hpre hR hI KK hK => ?_) ?_
                            · have p8 : Ld 8 = true := hpre 8 (List.mem_of_elem_eq_true (by kernel_rfl))
                              have f8 := (hR.ev 8 rfl rfl p8).trans (hI.val 8 _ rfl p8)
                              have p9 : Ld 9 = true := hpre 9 (List.mem_of_elem_eq_true (by kernel_rfl))
                              have f9 := (hR.ev 9 rfl rfl p9).trans (hI.val 9 _ rfl p9)
                              exact J_indexAddr rfl _ (.tmp 144) (.tmp 145) rfl (by rw [f8, f9]; go_simp <;> (intro h; omega)) (hK _ _ (hI.put0 10 rfl rfl (hI.st.mv _ (by decide))))
                            refine JSteps.cons (fun V Ld a W hLi hpre hR hI KK hK => ?_) ?_
                            · have p10 : Ld 10 = true := hpre 10 (List.mem_of_elem_eq_true (by kernel_rfl))
                              have f10 := (hR.ev 10 rfl rfl p10).trans (hI.val 10 _ rfl p10)
                              have c0 := hI.st.cell WC.out NE2.out
                              exact J_load rfl _ (.tmp 146) rfl (by rw [f10]; go_simp) (hK _ _ (hI.put0 11 rfl rfl (hI.st.mv _ (by decide))))
                            refine JSteps.cons (fun V Ld a W hLi hpre hR hI KK hK => ?_) ?_
                            · have o22 := (hR.old 22 (by kernel_rfl)).trans (show _ = Value.int .i64 (z : Int) from rfl)
                              exact G_move rfl (.tmp 22) rfl o22 (hK _ _ (hI.put0 12 rfl rfl (hI.st.mv _ (by decide))))
                            refine JSteps.cons (fun V Ld a W hLi hpre hR hI KK hK => ?_) ?_
                            · have p11 : Ld 11 = true := hpre 11 (List.mem_of_elem_eq_true (by kernel_rfl))
                              have f11 := (hR.ev 11 rfl rfl p11).trans (hI.val 11 _ rfl p11)
                              have p12 : Ld 12 = true := hpre 12 (List.mem_of_elem_eq_true (by kernel_rfl))
                              have f12 := (hR.ev 12 rfl rfl p12).trans (hI.val 12 _ rfl p12)
                              exact J_binOp rfl .mul _ (.tmp 147) (.tmp 148) _ rfl (by rw [f11, f12]; exact b_mulI _ _ W MU.out MU1.out MU2.out) (hK _ _ (hI.put0 13 rfl rfl (hI.st.mv _ (by decide))))
                            refine JSteps.cons (fun V Ld a W hLi hpre hR hI KK hK => ?_) ?_
                            · have p7 : Ld 7 = true := hpre 7 (List.mem_of_elem_eq_true (by kernel_rfl))
                              have f7 := (hR.ev 7 rfl rfl p7).trans (hI.val 7 _ rfl p7)
                              have p13 : Ld 13 = true := hpre 13 (List.mem_of_elem_eq_true (by kernel_rfl))
                              have f13 := (hR.ev 13 rfl rfl p13).trans (hI.val 13 _ rfl p13)
                              exact J_binOp rfl .add _ (.tmp 143) (.tmp 149) _ rfl (by rw [f7, f13]; exact b_addI _ _ W SU.out SU1.out SU2.out) (hK _ _ (hI.put0 14 rfl rfl (hI.st.o14 p7 hLi)))
                            refine JSteps.cons (fun V Ld a W hLi hpre hR hI KK hK => ?_) ?_
                            · have o4 := (hR.old 4 (by kernel_rfl)).trans (show _ = Value.pointer (some ⟨w.heap.size, 0, none⟩) from rfl)
                              exact J_fieldAddr rfl _ (.tmp 4) 0 rfl (by rw [o4]; go_simp) (hK _ _ (hI.put0 15 rfl rfl (hI.st.mv _ (by decide))))
                            refine JSteps.cons (fun V Ld a W hLi hpre hR hI KK hK => ?_) ?_
                            · have p15 : Ld 15 = true := hpre 15 (List.mem_of_elem_eq_true (by kernel_rfl))
                              have f15 := (hR.ev 15 rfl rfl p15).trans (hI.val 15 _ rfl p15)
                              have c0 := hI.st.cell PC.out NE3.out
                              exact J_load rfl _ (.tmp 151) rfl (by rw [f15]; go_simp) (hK _ _ (hI.put0 16 rfl rfl (hI.st.mv _ (by decide))))
                            refine JSteps.cons (fun V Ld a W hLi hpre hR hI KK hK => ?_) ?_
                            · have p14 : Ld 14 = true := hpre 14 (List.mem_of_elem_eq_true (by kernel_rfl))
                              have f14 := (hR.ev 14 rfl rfl p14).trans (hI.val 14 _ rfl p14)
                              have p16 : Ld 16 = true := hpre 16 (List.mem_of_elem_eq_true (by kernel_rfl))
                              have f16 := (hR.ev 16 rfl rfl p16).trans (hI.val 16 _ rfl p16)
                              exact J_binOp rfl .rem _ (.tmp 150) (.tmp 152) _ rfl (by rw [f14, f16]; exact b_remI _ _ W b1 RR.out) (hK _ _ (hI.put0 17 rfl rfl (hI.st.o17 p14 hLi)))
                            refine JSteps.cons (fun V Ld a W hLi hpre hR hI KK hK => ?_) ?_
                            · have p1 : Ld 1 = true := hpre 1 (List.mem_of_elem_eq_true (by kernel_rfl))
                              have f1 := (hR.ev 1 rfl rfl p1).trans (hI.val 1 _ rfl p1)
                              have p2 : Ld 2 = true := hpre 2 (List.mem_of_elem_eq_true (by kernel_rfl))
                              have f2 := (hR.ev 2 rfl rfl p2).trans (hI.val 2 _ rfl p2)
                              exact J_indexAddr rfl _ (.tmp 137) (.tmp 138) rfl (by rw [f1, f2]; go_simp <;> (intro h; omega)) (hK _ _ (hI.put0 18 rfl rfl (hI.st.mv _ (by decide))))
                            refine JSteps.cons (fun V Ld a W hLi hpre hR hI KK hK => ?_) trivial
                            · have p18 : Ld 18 = true := hpre 18 (List.mem_of_elem_eq_true (by kernel_rfl))
                              have f18 := (hR.ev 18 rfl rfl p18).trans (hI.val 18 _ rfl p18)
                              have p17 : Ld 17 = true := hpre 17 (List.mem_of_elem_eq_true (by kernel_rfl))
                              have f17 := (hR.ev 17 rfl rfl p17).trans (hI.val 17 _ rfl p17)
                              have eW := hI.st.n hLi
                              have c0 : W.cell? ⟨vb, k, none⟩ = some (.int .i64 (xk : Int)) := by rw [eW]; exact TC.out
                              have c1 : W.frozen? ⟨vb, k, none⟩ = false := by rw [eW]; exact TF.out
                              clear eW
                              exact J_store rfl _ (.tmp 154) (.tmp 153) rfl (by rw [f18, f17]; exact st_int c0 c1 _) (hK _ _ (hI.put trivial 19 rfl trivial (hI.st.o19 p17 hLi)))
                          case refine_3 =>
                            intro V Ld w9 hLd hI
                            have e9 := hI.st.y (hLd 19 (by decide))
                            clear hI hLd
                            simp only [finL, putL, Act.put, Nat.reduceAdd]
                            generalize V 0 = v0
                            generalize V 1 = v1
                            generalize V 2 = v2
                            generalize V 3 = v3
                            generalize V 4 = v4
                            generalize V 5 = v5
                            generalize V 6 = v6
                            generalize V 7 = v7
                            generalize V 8 = v8
                            generalize V 9 = v9
                            generalize V 10 = v10
                            generalize V 11 = v11
                            generalize V 12 = v12
                            generalize V 13 = v13
                            generalize V 14 = v14
                            generalize V 15 = v15
                            generalize V 16 = v16
                            generalize V 17 = v17
                            generalize V 18 = v18
                            clear V
                            simp only [List.setIfInBounds_toArray, List.set_cons_succ, List.set_cons_zero]
                            have HB8 := Lib.hid (show Below w6.heap.size w6 w9 from by rw [e9]; exact below_setQ HBR2.out.drew _ _ hvb)
                            have HM8 := Lib.hid (show NatBlk w9 vb (midV p T Kt c (k + 1)) from by rw [e9]; exact HMS.out _ HM.out.drew)
                            have HN8 := Lib.hid (show ShCell w9 nb y (.slice (some ⟨vb, 0, none⟩) m m) from by rw [e9]; exact ShCell.other (show ShCell wr.drew nb y _ from HN5.out) _ _ (show nb ≠ vb from NE1.out))
                            clear e9
                            go_wp2_with fail
                            go_roundw
                            case rel => exact ⟨k + 1, by omega, by go_num, HB8.out, HM8.out, HN8.out⟩
                            case measure => simp [intOf]; omega
                        · obtain rfl : k = m := by omega
                          have hkmi : ¬ (k : Int) < (k : Int) := by omega
                          have HM9 := Lib.hid (show NatBlk wr vb (accV p k ws (fun i => vN (natL S) i) (t + 1)) from by
                            rw [HNX.out, ← midV_all (by rw [HKL.out, HTL.out]), HTL.out]; exact HM.out)
                          clear hM hNC hbr
                          go_wp2_with fail
                          go_roundw
                          case rel => exact ⟨t + 1, by omega, by go_num, HBR2.out, HM9.out, HN5.out⟩
                          case measure => simp [intOf]; omega
                    · obtain rfl : t = S.length := by omega
                      have hti : ¬ (S.length : Int) < (S.length : Int) := by omega
                      have hTl := HACL.out S.length ht
                      have hAJ := accV_join (p := p) (ws := ws) (Ls := fun i => vN (natL S) i) (m := m) hS0 (fun i hi => HPT.out.len i (by rw [natL_len]; exact hi))
                      rw [hAJ] at hT hTl
                      have HTF := Lib.hid hT
                      have HTL := Lib.hid hTl
                      have HRr := Lib.hid (HR6.out.below hbr)
                      have hbwz := below_trans hbw6 hbr
                      have hN0 := hNC.c0
                      have hN1 := hNC.c1
                      have s0 := HRr.out.c0
                      have s1 := HRr.out.c1
                      have f0 := HRr.out.frozen 0
                      have f1 := HRr.out.frozen 1
                      have hlr := HRr.out.lt
                      clear hT hNC hAJ hTl hbr
                      go_wp2_with fail
                      refine bodyPost_ret (results_shr2 rfl _ _ (w.heap.size + 1 + 1) rfl (shcell_fill HRr.out y _)) rfl ?_
                      rw [J.out.1, J.out.2.1, J.out.2.2, ← HY.out.1]
                      refine ⟨some ⟨vb, 0, none⟩, m, by rw [HTL.out]; rfl, ?_, ?_, fun b off e => ?_, below_set2 hbwz (by omega) _ _⟩
                      · exact NatBlk.nats (show NatBlk _ vb _ from (Below.heap_setCell _ _ _ vb (by show vb ≠ w.heap.size + 1 + 1; omega)).trans ((Below.heap_setCell _ _ _ vb (by show vb ≠ w.heap.size + 1 + 1; omega)).trans HTF.out))
                      · have h0 := SlOK.own HTF.out (by rw [HTL.out]; unfold maxLen; omega)
                        rw [HTL.out] at h0; exact h0
                      · injection e with e
                        injection e with e
                        subst e
                        refine ⟨hwv, ?_⟩
                        have := HTF.out.lt
                        simpa [World.setCell] using this
    · have J := Lib.hid (jn_len (p := p) (n := n) (h := h) (p' := p') (n' := n') (h' := h') hlen)
      have t1 : ((F.length : Int) != (S.length : Int)) = true := by simp; omega
      clear hto hlen P
      go_enter Tryd.func45, Tryd.ntmps45
      go_wp2_with fail
      refine gen_calls fun w1 hw1 => ?_
      have hP : PlanCell w1 w.heap.size p n h := by rw [hw1]; exact ((PlanCell.new _ _ _ rfl).alloc _).alloc _
      have hQ : PlanCell w1 (w.heap.size + 1) p' n' h' := by rw [hw1]; exact (PlanCell.new _ _ _ (by simp)).alloc _
      have hR : ShCell w1 (w.heap.size + 1 + 1) 0 (.slice none 0 0) := by rw [hw1]; exact ShCell.new _ _ (by simp)
      have hb1 : Below w.heap.size w w1 := by rw [hw1]; exact bl_alloc _ (bl_alloc _ (below_alloc _ _))
      clear hw1
      refine ret_below (HPL.out _ hb1) fun w2 hb2 => ?_
      have hbw2 := below_trans hb1 hb2
      have HP2 := Lib.hid (hP.below hb2)
      have HQ2 := Lib.hid (hQ.below hb2)
      have HR2 := Lib.hid (hR.below hb2)
      clear hP hQ hR hb1 hb2 HPL
      have hbw := hbw2
      have HRr := HR2
      have s0 := HRr.out.c0
      have s1 := HRr.out.c1
      have f0 := HRr.out.frozen 0
      have f1 := HRr.out.frozen 1
      have hz := hbw.size
      go_wp2_with fail
      refine bodyPost_ret (results_shr2 rfl _ _ (w.heap.size + 1 + 1) rfl (shcell_fill HRr.out 0 _)) rfl ?_
      rw [J.out.e, J.out.x, J.out.v]
      exact ⟨none, 0, rfl, NatsAt.nil _ _, SlOK.none0, (fun b off e => by cases e), below_set2 hbw (by omega) _ _⟩
end Go.Proofs.YtlhipgejiacklaaDoor
namespace Go.Proofs.YtlhipgejiacklaaDoor
open Go.RowKit
attribute [local go_sem high] sliced_low

theorem refSplit_made (p n h n' h' x : Nat) (B C : Option Addr) (L ran : List Nat) (cb cc j : Nat) (w : World) (PN : PlanN p n h) (PN' : PlanN p n' h') (hI : NatsAt w B L) (hR : NatsAt w C ran) (hok : SlOK C cc ran) (h1 : 1 ≤ x) (h2 : x ≤ h) (hL : ∀ y ∈ L, y < p) (hr : ∀ y ∈ ran, y < p) (hm : L.length ≤ 2048)
    (hl : ran.length = L.length * (n' - 1)) (hl2 : ran.length ≤ 1048576) (hj : j = ran.length) :
    Calls Tryd.prog 43 #[planV p n h, planV p n' h', shV x (.slice B L.length cb), .slice C j cc] w (DealR (dealN p n' h' L ran) h' w) := by
  subst hj
  have := refSplit_any p n h p n' h' x B C (ofN L) (ofN ran) cb cc w PN hI.ints hR.ints (by rw [len_ofN]; exact hok.iok) (by rw [len_ofN]; omega) (by rw [len_ofN]; omega)
  have hst : stB p h x (ofN L) = true := by rw [← stB_in (by omega) (by omega)]; exact nat_inside hL
  obtain ⟨e1, e2⟩ := dl_nats PN'.pl hm hL hr hl
  rw [(sp_ok (toB_eq PN'.pl) hst).1, (sp_ok (toB_eq PN'.pl) hst).2, e1, e2, len_ofN, len_ofN] at this
  refine this.mono ?_
  rintro e w' ⟨A', c', rfl, h1, h2⟩
  exact ⟨A', c', by rw [shL_len, deal_len], h1, h2⟩

theorem refJoin_made {P0 : Nat → Prop} (p n h n' h' y m t : Nat) (A B : Option Addr) (ca cb : Nat) (hs : List Nat) (Q : List ShN) (w : World) (PN : PlanN p n h) (PN' : PlanN p n' h') (hA : NatsAt w A hs) (hok : SlOK A ca hs) (hQ : ShP P0 w B cb (shL Q))
    (hnd : hs.Nodup) (hr : ∀ x ∈ hs, 1 ≤ x ∧ x ≤ h) (hp : Parts p h' y m Q) (hm : m ≤ 2048) (ht : hs.length = t) (hq : Q.length = t) (hn : n ≤ t) (ht7 : t ≤ 16) :
    Calls Tryd.prog 45 #[planV p n h, planV p n' h', .slice A t ca, .slice B t cb] w (NewShrE y (joinV p (wsN p hs 0) (fun i => vN Q i) t) 0 w) := by
  have hn1 := PN.n1
  have h1 := refJoin_any p n h p n' h' A B (ofN hs) (shL Q) ca cb w PN hA.ints (by rw [len_ofN]; exact hok.iok) hQ (fun k hk => by
    have hk' : k < Q.length := by rw [shL_len] at hk; exact hk
    have := hp.len k hk'
    rw [show (vS (shL Q) k).length = (vN Q k).length from by simp [vS, vN, shL, shI, List.getD_eq_getElem?_getD, hk', len_ofN]]; omega) (by rw [len_ofN]; omega) (by rw [shL_len]; omega)
  obtain ⟨j1, j2, j3⟩ := jn_ok (n := n) (toB_eq PN'.pl) (gv_nat hnd hr) (by rw [len_ofN, shL_len]; omega) hp.fits (by rw [len_ofN]; omega)
  have e0 : hS (shL Q) 0 = (y : Int) := by
    have := hp.hold 0 (by omega)
    have hq0 : 0 < Q.length := by omega
    simp only [hS, hN, shL, shI, List.getD_eq_getElem?_getD, List.getElem?_map, List.getElem?_eq_getElem hq0, Option.map_some, Option.getD_some] at this ⊢
    rw [this]
  have e1 : (ofN hs).map Int.toNat = hs := by simp [ofN, List.map_map, Function.comp_def]
  rw [j1, j2, j3, e0, e1, natL_shL, len_ofN, shL_len, ht, hq] at h1
  exact h1

/-- Holders and lists of shares under way, each in a row of its own. -/
structure FG (w : World) (base : Nat) (f g : Value) (xs : List Nat) (Ns : List (List ShN)) : Prop where
  own : w.ownsRow base 3 1 f xs.length (valsN xs)
  rows : ∃ Vs : List Value, w.ownsRow base 31 1 g Vs.length Vs ∧ Vs.length = Ns.length ∧ ∀ k (h : k < Ns.length), ∃ u, Vs[k]? = some u ∧ PhiS (fun b => base ≤ b ∧ f.ownBlock ≠ some b ∧ g.ownBlock ≠ some b) w u (shL Ns[k])
  ne : ∀ b, f.ownBlock = some b → g.ownBlock ≠ some b
theorem FG.nil (w : World) (base : Nat) : FG w base (.slice none 0 0) (.slice none 0 0) [] [] :=
  ⟨World.ownsRow_nil _ _ _ _, ⟨[], World.ownsRow_nil _ _ _ _, rfl, fun k h => absurd h (by simp)⟩, fun b e => by cases e⟩
theorem FG.below {w w' : World} {base : Nat} {f g : Value} {xs : List Nat} {Ns : List (List ShN)} (h : FG w base f g xs Ns) (hb : Below w.heap.size w w') : FG w' base f g xs Ns := by
  obtain ⟨Vs, e1, e2, e3⟩ := h.rows
  refine ⟨own_below h.own hb, ⟨Vs, own_below e1 hb, e2, fun k hk => ?_⟩, h.ne⟩
  obtain ⟨u, f1, f2⟩ := e3 k hk
  exact ⟨u, f1, phiS.keep f2 (Kept.below hb)⟩
theorem fg_keep {P Q : Nat → Prop} {w w' : World} {A : Option Addr} {c : Nat} {S : List Shr} {row : Option Nat} (h : ShP P w A c S) (hg : w.grownBy w' row) (h1 : ∀ b, P b → row ≠ some b) (h2 : ∀ b, b < w.heap.size → P b → Q b) : ShP Q w' A c S :=
  ((h.mono (Q := fun b => P b ∧ Q b) (fun b hlt hp => ⟨hp, h2 b hlt hp⟩)).keep (w' := w') ⟨hg.size, fun b hb hlt => hg.block b hlt (fun e => h1 b hb.1 e.symm)⟩).mono (fun _ _ hb => hb.2)
theorem FG.push1 {W w9 : World} {base : Nat} {f f' g : Value} {xs ys : List Nat} {Ns : List (List ShN)} (h : FG W base f g xs Ns) (hown : w9.ownsRow base 3 1 f' ys.length (valsN ys)) (hg : W.grownBy w9 f.ownBlock) (hv : ∀ b, f'.ownBlock = some b → f.ownBlock = some b ∨ W.heap.size ≤ b) :
    FG w9 base f' g ys Ns := by
  obtain ⟨Vs, e1, e2, e3⟩ := h.rows
  have hgl := World.ownsRow.lt e1
  refine ⟨hown, ⟨Vs, World.ownsRow.kept e1 hg ?_, e2, fun k hk => ?_⟩, fun b e e' => ?_⟩
  · rcases hgo : g.ownBlock with _ | b
    · exact .inl rfl
    · exact .inr (fun e => h.ne b e.symm hgo)
  · obtain ⟨u, f1, B, c, f2, f3⟩ := e3 k hk
    refine ⟨u, f1, B, c, f2, fg_keep f3 hg (fun b hb => hb.2.1) (fun b hlt hb => ⟨hb.1, fun e => ?_, hb.2.2⟩)⟩
    rcases hv b e with h1 | h1
    · exact hb.2.1 h1
    · omega
  · rcases hv b e with h1 | h1
    · exact h.ne b h1 e'
    · have := (hgl b e').2
      omega
theorem fg_sh1 {W w9 : World} {base : Nat} {f f' g : Value} {A : Option Addr} {c : Nat} {S : List Shr} (h : ShP (fun b => base ≤ b ∧ f.ownBlock ≠ some b ∧ g.ownBlock ≠ some b) W A c S) (hg : W.grownBy w9 f.ownBlock) (hv : ∀ b, f'.ownBlock = some b → f.ownBlock = some b ∨ W.heap.size ≤ b) :
    ShP (fun b => base ≤ b ∧ f'.ownBlock ≠ some b ∧ g.ownBlock ≠ some b) w9 A c S :=
  fg_keep h hg (fun b hb => hb.2.1) (fun b hlt hb => ⟨hb.1, fun e => by
    rcases hv b e with h1 | h1
    · exact hb.2.1 h1
    · omega, hb.2.2⟩)
theorem FG.push2 {W w9 : World} {base : Nat} {f g g' : Value} {xs : List Nat} {Ns : List (List ShN)} {Nn : List ShN} {Vs : List Value} {DA : Option Addr} {dc k : Nat} (h : FG W base f g xs Ns) (e1 : W.ownsRow base 31 1 g Vs.length Vs) (e2 : Vs.length = Ns.length)
    (e3 : ∀ k (h : k < Ns.length), ∃ u, Vs[k]? = some u ∧ PhiS (fun b => base ≤ b ∧ f.ownBlock ≠ some b ∧ g.ownBlock ≠ some b) W u (shL Ns[k])) (hD : ShP (fun b => base ≤ b ∧ f.ownBlock ≠ some b ∧ g.ownBlock ≠ some b) W DA dc (shL Nn)) (hk : k = Nn.length)
    (hown : w9.ownsRow base 31 1 g' (Vs.length + 1) (Vs ++ [.slice DA k dc])) (hg : W.grownBy w9 g.ownBlock) (hv : ∀ b, g'.ownBlock = some b → g.ownBlock = some b ∨ W.heap.size ≤ b) : FG w9 base f g' xs (Ns ++ [Nn]) := by
  subst hk
  have hfl := World.ownsRow.lt h.own
  have key : ∀ {A : Option Addr} {c : Nat} {S : List Shr}, ShP (fun b => base ≤ b ∧ f.ownBlock ≠ some b ∧ g.ownBlock ≠ some b) W A c S → ShP (fun b => base ≤ b ∧ f.ownBlock ≠ some b ∧ g'.ownBlock ≠ some b) w9 A c S := fun hS =>
    fg_keep hS hg (fun b hb => hb.2.2) (fun b hlt hb => ⟨hb.1, hb.2.1, fun e => by
      rcases hv b e with h1 | h1
      · exact hb.2.2 h1
      · omega⟩)
  refine ⟨World.ownsRow.kept h.own hg ?_, ⟨Vs ++ [.slice DA Nn.length dc], by rw [List.length_append]; exact hown, by simp [e2], fun k hk => ?_⟩, fun b e e' => ?_⟩
  · rcases hfo : f.ownBlock with _ | b
    · exact .inl rfl
    · exact .inr (fun e => h.ne b hfo e.symm)
  · rcases Nat.lt_or_ge k Ns.length with h1 | h1
    · obtain ⟨t, f1, B, c, f2, f3⟩ := e3 k h1
      refine ⟨t, by rw [List.getElem?_append_left (by omega)]; exact f1, B, c, ?_, ?_⟩
      · rw [List.getElem_append_left h1]; exact f2
      · rw [List.getElem_append_left h1]; exact key f3
    · obtain rfl : k = Ns.length := by simp at hk; omega
      refine ⟨_, by rw [← e2]; simp; rfl, DA, dc, ?_, ?_⟩
      · rw [List.getElem_append_right (by omega)]; simp [shL_len]
      · rw [List.getElem_append_right (by omega)]
        simpa using key hD
  · rcases hv b e' with h1 | h1
    · exact h.ne b e h1
    · have := (hfl b e).2; omega
theorem FG.read {w : World} {base : Nat} {f g : Value} {xs : List Nat} {Ns : List (List ShN)} (h : FG w base f g xs Ns) : ∃ A c, g = .slice A Ns.length c ∧ ∀ k (h : k < Ns.length), ∃ b off DA dc, A = some ⟨b, off, none⟩ ∧ b < w.heap.size ∧ w.cell? ⟨b, off + k, none⟩ = some (.slice DA Ns[k].length dc) ∧ ShP (fun b => base ≤ b) w DA dc (shL Ns[k]) := by
  obtain ⟨Vs, e1, e2, e3⟩ := h.rows
  have hR : RowsG PhiS 31 (fun b => base ≤ b) w base g (Ns.map shL) := ⟨Vs, e1, by rw [List.length_map]; exact e2, fun k hk => by
    have hk' : k < Ns.length := by simpa using hk
    obtain ⟨u, f1, f2⟩ := e3 k hk'
    exact ⟨u, f1, by simpa using phiS.mono f2 (fun b _ hb => ⟨hb.1, hb.2.2⟩)⟩⟩
  obtain ⟨A, c, rfl, -, h2⟩ := hR.read phiS
  refine ⟨A, c, by rw [List.length_map], fun k hk => ?_⟩
  obtain ⟨b, off, u, hA, hb, -, hc, DA, dc, rfl, hS⟩ := h2 k (by simpa using hk)
  simp only [List.getElem_map, shL_len] at hc hS
  exact ⟨b, off, DA, dc, hA, hb, hc, hS⟩
def gvD (p n' h' : Nat) (M : List ShN) (rs : List (List Nat)) (k : Nat) : List (List ShN) := (List.range k).map fun i => dealN p n' h' (vN M i) (rs.getD i [])
theorem gvD_len (p n' h' : Nat) (M : List ShN) (rs : List (List Nat)) (k : Nat) : (gvD p n' h' M rs k).length = k := by simp [gvD]
theorem gvD_succ (p n' h' : Nat) (M : List ShN) (rs : List (List Nat)) (k : Nat) : gvD p n' h' M rs (k + 1) = gvD p n' h' M rs k ++ [dealN p n' h' (vN M k) (rs.getD k [])] := by simp [gvD, List.range_succ]
theorem gvD_at {p n' h' : Nat} {M : List ShN} {rs : List (List Nat)} {k i : Nat} (hi : i < (gvD p n' h' M rs k).length) : (gvD p n' h' M rs k)[i] = dealN p n' h' (vN M i) (rs.getD i []) := by simp [gvD]
theorem hsN_take' {M : List ShN} {k : Nat} (h : k < M.length) : hsN (M.take (k + 1)) = hsN (M.take k) ++ [hN M k] := by
  rw [List.take_succ_eq_append_getElem h]; unfold hsN; rw [List.map_append]; congr 1; simp [hN, List.getD_eq_getElem?_getD, h]

set_option maxRecDepth 100000 in
set_option maxHeartbeats 8000000 in
theorem refMove_good {P P' : Nat → Prop} (p n h n' h' : Nat) (A RA : Option Addr) (c rc kM kr : Nat) (m : Nat) (M : List ShN) (rs : List (List Nat)) (w : World) (PN : PlanN p n h) (PN' : PlanN p n' h') (H : GoodW p h m M) (hm : m ≤ 64) (hA : ShP P w A c (shL M)) (hR : LstP P' w RA rc rs)
    (hn : n ≤ M.length) (hl : M.length ≤ 16) (hkM : kM = M.length) (hkr : kr = rs.length) (hr : n ≤ rs.length) (hr2 : rs.length ≤ 1000) (hrs : Rands p n' m n rs) :
    Calls Tryd.prog 47 #[planV p n h, planV p n' h', .slice A kM c, .slice RA kr rc] w (DealR (movedN p n' h' M rs n) h' w) := by
  subst hkM hkr
  have hn1 := PN.n1
  have hp1 := PN.p1
  have hcap := hA.cap
  have hh'7 := PN'.h7
  have HCM := Lib.hid (fun (W : World) (hb : Below w.heap.size w W) => show Calls Tryd.prog 27 #[planV p n h, .slice A M.length c] W (ListErr (cmL p n h (shL M)) 0 W) from by
    have := refCombine_any p n h A c (shL M) W PN.pv (hA.below hb) (short_shL fun k hk => by rw [H.vl k hk]; omega) (by rw [shL_len]; omega)
    rw [cmE_good PN H.gd hn, shL_len] at this; exact this)
  have HPL := Lib.hid (fun (W : World) (hb : Below w.heap.size w W) => show Calls Tryd.prog 72 #[planV p n h, planV p n' h'] W (RetB (.bool true) W) from by have := refPlans_toB p n h p n' h' W PN; rw [toB_eq PN'.pl] at this; exact this)
  have HA := Lib.hid hA
  have HR := Lib.hid hR
  have HM := Lib.hid H
  have HPN := Lib.hid PN
  have HPN' := Lib.hid PN'
  have HRS := Lib.hid hrs
  clear hA hR H PN PN' hrs
  generalize cmL p n h (shL M) = CL at *
  go_enter Tryd.func47, Tryd.ntmps47
  go_wp2_with fail
  refine gen_calls fun w1 hw1 => ?_
  have hP : PlanCell w1 w.heap.size p n h := by rw [hw1]; exact (PlanCell.new _ _ _ rfl).alloc _
  have hQ : PlanCell w1 (w.heap.size + 1) p n' h' := by rw [hw1]; exact PlanCell.new _ _ _ (by simp)
  have hb1 : Below w.heap.size w w1 := by rw [hw1]; exact bl_alloc _ (below_alloc _ _)
  clear hw1
  refine (HCM.out _ hb1).mono ?_
  rintro e w2 ⟨XA2, xc2, rfl, -, -, -, hb2⟩
  have hbw2 := below_trans hb1 hb2
  have HP2 := Lib.hid (hP.below hb2)
  have HQ2 := Lib.hid (hQ.below hb2)
  have p0 := HP2.out.c0
  have p1 := HP2.out.c1
  have p2 := HP2.out.c2
  have q0 := HQ2.out.c0
  have q1 := HQ2.out.c1
  have q2 := HQ2.out.c2
  clear hP hQ hb1 hb2
  go_wp2_with fail
  refine ret_below (HPL.out _ hbw2) fun w3 hb3 => ?_
  have hb3w := below_trans hbw2 hb3
  have HP3 := Lib.hid (HP2.out.below hb3)
  have HQ3 := Lib.hid (HQ2.out.below hb3)
  clear p0 p1 p2 q0 q1 q2 HCM HPL HP2 HQ2 hb3 hbw2
  have p03 := HP3.out.c0
  have p13 := HP3.out.c1
  have p23 := HP3.out.c2
  have q03 := HQ3.out.c0
  have q13 := HQ3.out.c1
  have q23 := HQ3.out.c2
  have i0 : (n : Int) ≤ (c : Int) := by omega
  have i1 : (0 : Int) ≤ (n : Int) := by omega
  have hrd : decide (rs.length < n) = false := decide_eq_false (by omega)
  go_wp2_with fail
  go_loopw [12, 13, 50] (fun f g i wr => ∃ k : Nat, k ≤ n ∧ i = .int .i64 k ∧ FG wr w3.heap.size f g (hsN (M.take k)) (gvD p n' h' M rs k) ∧ Below w3.heap.size w3 wr) (fun _ _ i _ => n - (intOf i).toNat)
  case atStart => exact ⟨0, Nat.zero_le _, rfl, FG.nil _ _, Below.refl _ _⟩
  case round =>
    obtain ⟨k, hk, rfl, hG, hbr⟩ := hrel
    have hbw := below_trans hb3w hbr
    have hsz := hbr.size
    by_cases hlt : k < n
    · have hkM : k < M.length := by omega
      obtain ⟨b1', o1, B1, c1, rfl, hb1, -, x0, x1, hX, -⟩ := (HA.out.below hbw).nat hkM
      obtain ⟨b2, o2, B2, c2, rfl, hb2, -, u0, hU, hUI⟩ := (HR.out.below hbw).at_ k (show k < rs.length by omega)
      have hUN := hUI.ints.nats
      obtain ⟨hx1, hx2, hLp⟩ := HM.out.gd.rng k hkM
      have hLl := HM.out.vlen hkM
      have hRl := HRS.out.len k hlt
      have hRp := HRS.out.lt k hlt
      have hRl2 : (rs.getD k []).length ≤ 1048576 := by
        have h0 : m * (n' - 1) ≤ 64 * 16 := Nat.mul_le_mul (by omega) (by have := HPN'.out.h7; have := HPN'.out.nh; omega)
        omega
      have HSC := Lib.hid (gvD_succ p n' h' M rs k)
      have HST := Lib.hid (hsN_take' hkM)
      obtain ⟨DD, hDD⟩ : ∃ D, D = dealN p n' h' (vN M k) (rs.getD k []) := ⟨_, rfl⟩
      have hDl : DD.length = h' := by rw [hDD]; exact deal_len _ _ _ _ _
      rw [← hDD] at HSC
      have HSPL := Lib.hid (fun (W : World) (hb : Below wr.heap.size wr W) => show Calls Tryd.prog 43 #[planV p n h, planV p n' h', shV (hN M k : Nat) (.slice B1 (vN M k).length c1), .slice B2 (rs.getD k []).length c2] W (DealR DD h' W) from by
        rw [hDD]
        exact refSplit_made p n h n' h' (hN M k) B1 B2 (vN M k) (rs.getD k []) c1 c2 _ W HPN.out HPN'.out (hX.below hb) (hUN.below hb) hU hx1 hx2 hLp hRp (by omega) (by rw [hRl, hLl]) hRl2 rfl)
      have HDL := Lib.hid hDl
      generalize hL : vN M k = L at *
      generalize hx : hN M k = x at *
      generalize hRd : rs.getD k [] = R at *
      have hP := HP3.out.below hbr
      have hQ := HQ3.out.below hbr
      have p0' := hP.c0
      have p1' := hP.c1
      have p2' := hP.c2
      have q0' := hQ.c0
      have q1' := hQ.c1
      have q2' := hQ.c2
      have lq' := hQ.lt
      have i0 : (0 : Int) ≤ (k : Int) := by omega
      have i1 : (k : Int) < (n : Int) := by omega
      have i2 : (k : Int) < (rs.length : Int) := by omega
      have HGV := Lib.hid hG
      clear hLl hRl hX hU hUI hUN hLp hRp hL hx hRd hDD hDl hP hQ hx1 hx2 hG p03 p13 p23 q03 q13 q23
      go_wp2_with fail
      refine gen_world fun w7 hw7 => ?_
      have hsc : ShCell w7 wr.heap.size x (.slice B1 L.length c1) := by rw [hw7]; exact ShCell.new _ _ rfl
      have hb7 : Below wr.heap.size wr w7 := by rw [hw7]; exact below_alloc _ _
      have hb7z := hb7.size
      have HSH := Lib.hid hsc
      have v0 := hsc.c0
      have v1 := hsc.c1
      have lg7 := hsc.lt
      have lpr : w.heap.size < wr.heap.size := by omega
      have lp7 : w.heap.size < w7.heap.size := by omega
      have lz7 : w.heap.size + 1 < w7.heap.size := by omega
      have lb7 : b2 < w7.heap.size := by omega
      have y0 := (hb7.cell (p := ⟨w.heap.size, 0, none⟩) lpr).trans p0'
      have y1 := (hb7.cell (p := ⟨w.heap.size, 1, none⟩) lpr).trans p1'
      have y2 := (hb7.cell (p := ⟨w.heap.size, 2, none⟩) lpr).trans p2'
      have y3 := (hb7.cell (p := ⟨w.heap.size + 1, 0, none⟩) lq').trans q0'
      have y4 := (hb7.cell (p := ⟨w.heap.size + 1, 1, none⟩) lq').trans q1'
      have y5 := (hb7.cell (p := ⟨w.heap.size + 1, 2, none⟩) lq').trans q2'
      have u0 := (hb7.cell (p := ⟨b2, o2 + k, none⟩) hb2).trans u0
      clear hw7 hsc p0' p1' p2' q0' q1' q2' x0 x1
      go_region_held3 (fun w' => w'.cell? ⟨w.heap.size, 0, none⟩ = some (.int .i64 (p : Int)) ∧ w'.cell? ⟨w.heap.size, 1, none⟩ = some (.int .i64 (n : Int)) ∧ w'.cell? ⟨w.heap.size, 2, none⟩ = some (.int .i64 (h : Int)) ∧ w'.cell? ⟨w.heap.size + 1, 0, none⟩ = some (.int .i64 (p : Int)) ∧ w'.cell? ⟨w.heap.size + 1, 1, none⟩ = some (.int .i64 (n' : Int)) ∧ w'.cell? ⟨w.heap.size + 1, 2, none⟩ = some (.int .i64 (h' : Int)) ∧ w'.cell? ⟨wr.heap.size, 0, none⟩ = some (.int .i64 (x : Int)) ∧ w'.cell? ⟨wr.heap.size, 1, none⟩ = some (.slice B1 L.length c1) ∧ w'.cell? ⟨b2, o2 + k, none⟩ = some (.slice B2 R.length c2)) (first | go_keep)
        (first | (go_at_call 43; refine (HSPL.out _ (below_trans hb7 (by (repeat (first | exact bl_refl _ | apply bl_drew | apply bl_alloc))))).mono ?_; rintro e w8 hR8; obtain ⟨DA, dc, rfl, hD, hb8⟩ := hR8.weak (w := w7) (by (repeat (first | exact bl_refl _ | apply bl_drew | apply bl_alloc))); have zd := hb8.size; have s0 := (hb8.cell (p := ⟨w.heap.size, 0, none⟩) lp7).trans y0; have s1 := (hb8.cell (p := ⟨w.heap.size, 1, none⟩) lp7).trans y1; have s2 := (hb8.cell (p := ⟨w.heap.size, 2, none⟩) lp7).trans y2; have s3 := (hb8.cell (p := ⟨w.heap.size + 1, 0, none⟩) lz7).trans y3; have s4 := (hb8.cell (p := ⟨w.heap.size + 1, 1, none⟩) lz7).trans y4; have s5 := (hb8.cell (p := ⟨w.heap.size + 1, 2, none⟩) lz7).trans y5; have s6 := (hb8.cell (p := ⟨wr.heap.size, 0, none⟩) lg7).trans v0; have s7 := (hb8.cell (p := ⟨wr.heap.size, 1, none⟩) lg7).trans v1; have s8 := (hb8.cell (p := ⟨b2, o2 + k, none⟩) lb7).trans u0))
      all_goals
        have hG8 := HGV.out.below (below_trans hb7 hb8)
        have hB8 : Below w3.heap.size w3 w8 := hbr.trans ((below_trans hb7 hb8).mono hsz)
        have hfl := World.ownsRow.lt HGV.out.own
        have hD8 : ShP (fun b => w3.heap.size ≤ b ∧ u12.ownBlock ≠ some b ∧ u13.ownBlock ≠ some b) w8 DA dc (shL DD) := by
          obtain ⟨Vs, e1, -, -⟩ := HGV.out.rows
          have hgl := World.ownsRow.lt e1
          exact hD.mono fun b _ hb => ⟨by omega, fun e => by have := (hfl b e).2; omega, fun e => by have := (hgl b e).2; omega⟩
        have hz8 : w3.heap.size ≤ w8.heap.size := hB8.size
        have lg8 : wr.heap.size < w8.heap.size := by omega
        have HG8 := Lib.hid hG8
        have HD8 := Lib.hid hD8
        have HB8 := Lib.hid hB8
        have hxl : (valsN (hsN (M.take k))).length = (hsN (M.take k)).length := by simp [valsN]
        have hown0 := hG8.own
        rw [← hxl] at hown0
        have hxk : (valsN (hsN (M.take k))).length ≤ 1048576 := by rw [hxl, hsN_len, List.length_take]; omega
        clear hG8 hD8 hB8 hfl hD hb8 zd s0 s1 s2 s3 s4 s5 s7 s8 y0 y1 y2 y3 y4 y5 u0 v0 v1 hR8
        go_wp2_with (at_builtin; refine Hid.out ?_)
        refine Lib.hid ?_
        refine app_val rfl (.tmp 69) (.tmp 72) 22 rfl (base := w3.heap.size) (u := .int .i64 (x : Int)) Tryd.underlying22 info_int rfl rfl hown0 rfl rfl hxk (by omega) (by omega) hz8 ?_
        intro v4 w9 hown4 hg4 hb4 hv4
        have HG9 := Lib.hid (FG.push1 (W := w8) (ys := hsN (M.take (k + 1))) HG8.out (by
          rw [HST.out]
          have e : valsN (hsN (M.take k) ++ [x]) = valsN (hsN (M.take k)) ++ [.int .i64 (x : Int)] := by simp [valsN]
          rw [e, show (hsN (M.take k) ++ [x]).length = (valsN (hsN (M.take k))).length + 1 from by simp [hxl]]; exact hown4) hg4 hv4)
        have HD9 := Lib.hid (fg_sh1 (W := w8) HD8.out hg4 hv4)
        have HB9 := Lib.hid (HB8.out.trans hb4)
        have hz9 : w3.heap.size ≤ w9.heap.size := (HB8.out.trans hb4).size
        obtain ⟨Vs, q1, q2, q3⟩ := HG9.out.rows
        have HQ3 := Lib.hid q3
        have HVL := Lib.hid q2
        have hVl : Vs.length ≤ 1048576 := by rw [q2, gvD_len]; omega
        clear q3 q2 hown4 hg4 hv4 hb4 hown0 hxl hxk s6
        go_wp2_with (at_builtin; refine Hid.out ?_)
        refine Lib.hid ?_
        refine app_val rfl (.tmp 74) (.tmp 76) 35 rfl (base := w3.heap.size) (u := .slice DA h' dc) Tryd.underlying35 info_shares rfl rfl q1 rfl rfl hVl (by omega) (by omega) hz9 ?_
        intro v5 w10 hown5 hg5 hb5 hv5
        have HG10 := Lib.hid (show FG w10 w3.heap.size v4 v5 (hsN (M.take (k + 1))) (gvD p n' h' M rs (k + 1)) from by
          rw [HSC.out]
          exact FG.push2 HG9.out q1 HVL.out HQ3.out HD9.out HDL.out.symm hown5 hg5 hv5)
        have HB10 := Lib.hid (HB9.out.trans hb5)
        clear hown5 hg5 hv5 hb5 q1
        go_wp2_with fail
        go_roundw
        case rel =>
          first
            | exact ⟨k + 1, by omega, by go_num, HG10.out, HB10.out⟩
            | (repeat (apply Exists.intro)
               refine And.intro ?_ rfl
               exact ⟨k + 1, by omega, by go_num, HG10.out, HB10.out⟩)
        case measure => simp [intOf]; omega
    · obtain rfl : n = k := by omega
      obtain ⟨w5, hw5⟩ : ∃ w5 : World, w5 = wr := ⟨_, rfl⟩
      subst hw5
      have HG5 := Lib.hid hG
      have HP5 := Lib.hid (HP3.out.below hbr)
      have HQ5 := Lib.hid (HQ3.out.below hbr)
      have lq5 := HQ5.out.lt
      have hb5w := hbw
      have HMT := HM.out.take hn
      have hMl : (M.take n).length = n := by rw [List.length_take]; omega
      have hsl : (hsN (M.take n)).length = n := by rw [hsN_len, hMl]
      have hnd := HMT.gd.nd
      have hrg : ∀ x ∈ hsN (M.take n), 1 ≤ x ∧ x ≤ h := HMT.hrg
      have HSS := Lib.hid (And.intro hsl (And.intro hnd hrg))
      obtain ⟨FA, fc, hf, hFN, hFO, -⟩ := own_sl hG.own rfl
      rw [hsl] at hf
      obtain ⟨GA, gc, hg, hGA⟩ := hG.read
      rw [gvD_len] at hg
      subst hf hg
      have HFN := Lib.hid (And.intro hFN hFO)
      have HGA := Lib.hid hGA
      have h35 : w3.heap.size ≤ w5.heap.size := hbr.size
      have q25 := HQ5.out.c2
      clear hG hGA hFN hFO hbw hsz hbr hMl hsl hnd hrg HMT HP3 HQ3 HR p03 p13 p23 q03 q13 q23
      go_wp2_with fail
      go_loopw [18, 81] (fun o i wr => ∃ j : Nat, j ≤ h' ∧ i = .int .i64 j ∧ RowsV (fun b => w5.heap.size ≤ b) wr w5.heap.size o (shL ((movedN p n' h' M rs n).take j)) ∧ Below w5.heap.size w5 wr) (fun _ i _ => h' - (intOf i).toNat)
      case atStart => exact ⟨0, Nat.zero_le _, rfl, RowsV.nil _ _ _, Below.refl _ _⟩
      case round =>
        obtain ⟨j, hj, rfl, hR, hbr⟩ := hrel
        obtain ⟨OA, oc, hv, hRd⟩ := hR.read
        have hlk : (shL ((movedN p n' h' M rs n).take j)).length = j := by rw [shL_len, List.length_take, movedN_len]; omega
        rw [hlk] at hv
        subst hv
        have HLK := Lib.hid hlk
        have HRd := Lib.hid hRd
        obtain ⟨wk, hwk⟩ : ∃ wk : World, wk = wr := ⟨_, rfl⟩
        subst hwk
        have hsz := hbr.size
        have hbw := below_trans hb5w hbr
        have HRr := Lib.hid hR
        have HBK := Lib.hid hbr
        have HBWK := Lib.hid hbw
        clear hR hlk hRd hbr
        by_cases hjl : j < h'
        · have hji : (j : Int) < (h' : Int) := by omega
          have i3 : (0 : Int) ≤ (j : Int) := by omega
          have hPT := given_partsW (k := j) (rs := rs) (t := n) (n' := n') (h' := h') HPN.out HM.out hn hjl
          have HJN := Lib.hid (fun (W : World) (hb : Below wk.heap.size wk W) (B1 : Option Addr) (c1 : Nat) (P0 : Nat → Prop) (hX : ShP P0 W B1 c1 (shL (givenN p n' h' M rs n j))) => show Calls Tryd.prog 45 #[planV p n h, planV p n' h', .slice FA n fc, .slice B1 n c1] W (NewShrE ((j + 1 : Nat) : Int) (joinV p (wsN p (hsN (M.take n)) 0) (fun i => vN (givenN p n' h' M rs n j) i) n) 0 W) from
            refJoin_made p n h n' h' (j + 1) m n FA B1 fc c1 (hsN (M.take n)) (givenN p n' h' M rs n j) W HPN.out HPN'.out (HFN.out.1.below (below_trans HBK.out hb)) HFN.out.2 hX HSS.out.2.1 HSS.out.2.2 hPT (by omega) HSS.out.1 (by rw [givenN_len]) (Nat.le_refl _) (by omega))
          have HTK := Lib.hid (movedN_take (p := p) (n' := n') (h' := h') (M := M) (rs := rs) (t := n) hjl)
          generalize joinV p (wsN p (hsN (M.take n)) 0) (fun i => vN (givenN p n' h' M rs n j) i) n = V at *
          clear hPT
          go_wp2_with fail
          go_loopw [20, 86] (fun pv i wr => ∃ t : Nat, t ≤ n ∧ i = .int .i64 t ∧ RowsV (fun b => w3.heap.size ≤ b ∧ b < wk.heap.size) wr wk.heap.size pv (shL (givenN p n' h' M rs t j)) ∧ Below wk.heap.size wk wr) (fun _ i _ => n - (intOf i).toNat)
          case atStart => exact ⟨0, Nat.zero_le _, rfl, by rw [show shL (givenN p n' h' M rs 0 j) = [] from by simp [givenN, shL]]; exact RowsV.nil _ _ _, Below.refl _ _⟩
          case round =>
            obtain ⟨t, ht, rfl, hR3, hbr3⟩ := hrel
            have HB3 := Lib.hid hbr3
            by_cases htn : t < n
            · have hti : (t : Int) < (n : Int) := by omega
              have t0 : (0 : Int) ≤ (t : Int) := by omega
              have htM : t < M.length := by omega
              obtain ⟨gb, go, DA, dc, rfl, hgb, hgc, hD⟩ := HGA.out t (by rw [gvD_len]; exact htn)
              rw [gvD_at] at hgc hD
              rw [deal_len] at hgc
              have hb5k := below_trans HBK.out hbr3
              replace hgc := (hb5k.cell (p := ⟨gb, go + t, none⟩) hgb).trans hgc
              obtain ⟨db, do_, EB, ec, rfl, hdb, hdP, d0, d1, hEN, hEI⟩ := hD.nat (k := j) (by rw [deal_len]; exact hjl)
              obtain ⟨r1, r2, r3⟩ := deal_row (n := n') (sec := vN M t) (ran := rs.getD t []) HPN.out.p1 hjl
              have HGS := Lib.hid (show shL (givenN p n' h' M rs (t + 1) j) = shL (givenN p n' h' M rs t j) ++ [(((j + 1 : Nat) : Int), ofN (vN (dealN p n' h' (vN M t) (rs.getD t [])) j))] from by rw [givenN_succ]; simp [shL, shI])
              rw [r1] at d0
              have hgl : (shL (givenN p n' h' M rs t j)).length = t := by rw [shL_len, givenN_len]
              generalize vN (dealN p n' h' (vN M t) (rs.getD t [])) j = Y at *
              have hz5k : w5.heap.size ≤ wk.heap.size := HBK.out.size
              obtain ⟨yI, hyI⟩ : ∃ yI : Int, yI = ((j + 1 : Nat) : Int) := ⟨_, rfl⟩
              rw [← hyI] at d0 HGS
              replace d0 := (hb5k.cell (p := ⟨db, do_ + j * 2, none⟩) hdb).trans d0
              replace d1 := (hb5k.cell (p := ⟨db, do_ + j * 2 + 1, none⟩) hdb).trans d1
              have hgb2 : gb < wr.heap.size := Nat.lt_of_lt_of_le hgb hb5k.size
              have hdb2 : db < wr.heap.size := Nat.lt_of_lt_of_le hdb hb5k.size
              obtain ⟨W, hW⟩ : ∃ W, W = wr.alloc (.cells #[.int .i64 yI, .slice EB Y.length ec] 53) := ⟨_, rfl⟩
              have hbW : Below wr.heap.size wr W := by rw [hW]; exact below_alloc _ _
              have hWk : wk.heap.size ≤ W.heap.size := Nat.le_trans hbr3.size hbW.size
              obtain ⟨H, e1, e2, e3⟩ := (hR3.below hbW).ex
              have HE2 := Lib.hid e2
              have HE3 := Lib.hid e3
              have hHl : H.length ≤ 100000 := by rw [e2, hgl]; omega
              have HEI := Lib.hid (((hEI.mono (Q := fun b => (w3.heap.size ≤ b ∧ b < wk.heap.size) ∧ u20.ownBlock ≠ some b) (fun b hlt hb => ⟨⟨hb, by omega⟩, fun e => by have := (World.ownsRow.lt e1 b e).1; omega⟩)).keep (Kept.below hb5k)).keep (Kept.below hbW))
              have HBW := Lib.hid (hbr3.trans (hbW.mono hbr3.size))
              clear e2 e3 hR3 hEI hEN hD hb5k hbr3 hdP r1 r2 r3 hgl hyI hgb hdb hbW
              subst hW
              go_wp2_with (at_builtin; refine app_hv rfl (.tmp 90) (.tmp 95) rfl (base := wk.heap.size) (H := H) (v := u20) (yI, .slice EB Y.length ec) rfl e1 rfl (heap_alloc_new _ _) rfl (by omega) (by omega) ?_; intro v4 wg hown4 hg4 hb4 hv4)
              have HR4 := Lib.hid (RowsV.more HE2.out HE3.out yI (ofN Y) HEI.out (by rw [len_ofN]; exact hown4) hg4 hv4)
              have HB4 := Lib.hid (HBW.out.trans hb4)
              clear hown4 hg4 hb4 hv4 e1
              go_roundw
              case rel => exact ⟨t + 1, by omega, by go_num, by rw [HGS.out]; exact HR4.out, HB4.out⟩
              case measure => simp [intOf]; omega
            · obtain rfl : n = t := by omega
              obtain ⟨PA, pc, hpv, hPS⟩ := hR3.read
              rw [shL_len, givenN_len] at hpv
              subst hpv
              have HPS := Lib.hid hPS
              have hb5k := below_trans HBK.out hbr3
              have hPk := HP5.out.below hb5k
              have hQk := HQ5.out.below hb5k
              have y0 := hPk.c0
              have y1 := hPk.c1
              have y2 := hPk.c2
              have y3 := hQk.c0
              have y4 := hQk.c1
              have y5 := hQk.c2
              have lzr := hQk.lt
              have hz5k : w5.heap.size ≤ wk.heap.size := HBK.out.size
              clear hR3 hPS hPk hQk hb5k hbr3
              go_wp2_with fail
              refine (HJN.out _ HB3.out PA pc _ HPS.out).mono ?_
              rintro e w9 ⟨SAe, sce, rfl, hSe, hOKe, hOffe, hbe⟩
              have hbe' : Below wk.heap.size wk w9 := below_trans HB3.out hbe
              have hz3 := HB3.out.size
              clear y0 y1 y2 y3 y4 y5 lzr
              go_upto_region 29 with fail
              refine gen_world fun wf hwf => ?_
              have hN9 : ShNew wk wf w9.heap.size ((j : Int) + 1) SAe sce V := hwf ▸ ShNew.late hbe' hSe hOKe (fun b off e => by have := hOffe b off e; omega)
              obtain ⟨g, hg⟩ : ∃ g, g = w9.heap.size := ⟨_, rfl⟩
              rw [← hg] at hN9 ⊢
              clear hg hwf
              have g0 := hN9.cell.c0
              have g1 := hN9.cell.c1
              have lg := hN9.cell.lt
              have HN9 := Lib.hid hN9
              obtain ⟨W, hW⟩ : ∃ W, W = wf.alloc (.cells #[.int .i64 ((j : Int) + 1), .slice SAe V.length sce] 53) := ⟨_, rfl⟩
              have hbW : Below wk.heap.size wk W := by rw [hW]; exact bl_alloc _ hN9.below
              have hW5 : w5.heap.size ≤ W.heap.size := Nat.le_trans hz5k hbW.size
              obtain ⟨H, e1, e2, e3⟩ := (HRr.out.below hbW).ex
              have HE3 := Lib.hid (And.intro e1 (And.intro e2 e3))
              have hHl : H.length ≤ 100000 := by rw [e2, HLK.out]; omega
              clear e2 e3 hN9 hOffe hSe hOKe hbe hbe'
              subst hW
              go_wp2_with (at_builtin; refine app_hv rfl (.tmp 106) (.tmp 108) rfl (base := w5.heap.size) (H := H) (v := .slice OA j oc) (((j : Int) + 1), .slice SAe V.length sce) rfl e1 rfl (heap_alloc_new _ _) rfl (by omega) (by omega) ?_; intro v4 wg hown4 hg4 hb4 hv4)
              have HB4 := Lib.hid (HBK.out.trans ((hbW.mono hsz).trans hb4))
              have HR4 := Lib.hid (RowsV.put (x := j + 1) HRr.out HN9.out hsz rfl HE3.out hown4 hg4 hv4 HTK.out)
              clear hown4 hg4 hv4 e1
              go_roundw
              case rel =>
                first
                  | exact ⟨j + 1, by omega, by go_num, HR4.out, HB4.out⟩
                  | (repeat (apply Exists.intro)
                     refine And.intro ?_ rfl
                     exact ⟨j + 1, by omega, by go_num, HR4.out, HB4.out⟩)
              case measure => simp [intOf]; omega
        · obtain rfl : j = h' := by omega
          have hX := HRd.out
          rw [List.take_of_length_le (by rw [movedN_len]; exact Nat.le_refl _)] at hX
          have hz6 := hb5w.size
          have HX := Lib.hid (hX.mono (Q := fun b => w.heap.size ≤ b) (fun b _ hb => by omega))
          clear hX
          go_wp2_with fail
          go_ret2
          exact ⟨OA, oc, rfl, HX.out, HBWK.out⟩

set_option maxRecDepth 100000 in
set_option maxHeartbeats 8000000 in
theorem refMove_bad {P0 P1 : Nat → Prop} (p n h n1 h1 : Nat) (A RA : Option Addr) (c rc r : Nat) (S : List Shr) (good : List Nat) (w : World) (P : PlanN p n h) (P' : PlanN p n1 h1) (hA : ShP P0 w A c S) (hR : LstP P1 w RA rc (List.replicate r good)) (hW : ∀ k, k < S.length → (vS S k).length ≤ 64) (hl : S.length ≤ 16) (hgl : good.length ≤ 1000) (hr : r ≤ 1000) (hcm : cmE p n h S = 0) (hrn : ¬ r < n) (hd : ¬ dlE p n1 h1 (vS S 0) (ofN good) = 0) :
    Calls Tryd.prog 47 #[planV p n h, planV p n1 h1, .slice A S.length c, .slice RA r rc] w (ShErr [] (dlE p n1 h1 (vS S 0) (ofN good)) w) := by
  have hsh : Short S := fun k hk => by have := hW k hk; omega
  have HCK := Lib.hid (fun (W : World) (hb : Below w.heap.size w W) => refCombine_any p n h A c S W P.pv (hA.below hb) hsh (by omega))
  have HPL := Lib.hid (fun (W : World) (hb : Below w.heap.size w W) => refPlans_toB p n h p n1 h1 W P)
  rw [hcm] at HCK
  rw [toB_eq P'.pl] at HPL
  obtain ⟨hgd, hnS⟩ := cm_of hcm
  have hst : stB p h (hS S 0) (vS S 0) = true := ((gdB_of hgd) 0 (by have := P.n1; omega)).st
  have hw0 := hW 0 (by have := P.n1; omega)
  have HSP := Lib.hid (fun (W : World) (hb : Below w.heap.size w W) (B C : Option Addr) (cb cc : Nat) (hI : IntsAt W B (vS S 0)) (hRI : IntsAt W C (ofN good)) (hok : IOK C cc (ofN good).length) => refSplit_any p n h p n1 h1 (hS S 0) B C (vS S 0) (ofN good) cb cc W P hI hRI hok (by omega) (by rw [len_ofN]; omega))
  rw [(sp_ok (toB_eq P'.pl) hst).1, (sp_ok (toB_eq P'.pl) hst).2] at HSP
  have hdL : dlL p n1 h1 (vS S 0) (ofN good) = [] := dlL_no hd
  rw [hdL] at HSP
  have HA := Lib.hid hA
  have HR := Lib.hid hR
  have hn1 := P.n1
  have hcap := hA.ok.len
  have hh1 := P'.h7
  have t5 : (dlE p n1 h1 (vS S 0) (ofN good) != 0) = true := by simp [hd]
  have hrn' : ¬ (r : Int) < (n : Int) := by omega
  have hrd : decide ((r : Int) < (n : Int)) = false := decide_eq_false hrn'
  generalize dlE p n1 h1 (vS S 0) (ofN good) = de at *
  clear hA hR hsh hgd hst hdL hcm hd P P'
  go_enter Tryd.func47, Tryd.ntmps47
  go_wp2_with fail
  refine gen_calls fun w1 hw1 => ?_
  have hP : PlanCell w1 w.heap.size p n h := by rw [hw1]; exact (PlanCell.new _ _ _ rfl).alloc _
  have hQ : PlanCell w1 (w.heap.size + 1) p n1 h1 := by rw [hw1]; exact PlanCell.new _ _ _ (by simp)
  have hb1 : Below w.heap.size w w1 := by rw [hw1]; exact bl_alloc _ (below_alloc _ _)
  clear hw1
  refine (HCK.out _ hb1).mono ?_
  rintro e w2 ⟨XA2, xc2, rfl, -, -, -, hb2⟩
  have hbw2 := below_trans hb1 hb2
  have HP2 := Lib.hid (hP.below hb2)
  have HQ2 := Lib.hid (hQ.below hb2)
  have p0 := HP2.out.c0
  have p1 := HP2.out.c1
  have p2 := HP2.out.c2
  have q0 := HQ2.out.c0
  have q1 := HQ2.out.c1
  have q2 := HQ2.out.c2
  clear hP hQ hb1 hb2
  go_wp2_with fail
  refine ret_below (HPL.out _ hbw2) fun w3 hb3 => ?_
  have hbw3 := below_trans hbw2 hb3
  have HP3 := Lib.hid (HP2.out.below hb3)
  have HQ3 := Lib.hid (HQ2.out.below hb3)
  clear p0 p1 p2 q0 q1 q2 HCK HPL HP2 HQ2 hb3 hbw2
  have p03 := HP3.out.c0
  have p13 := HP3.out.c1
  have p23 := HP3.out.c2
  have q03 := HQ3.out.c0
  have q13 := HQ3.out.c1
  have q23 := HQ3.out.c2
  have i0 : (n : Int) ≤ (c : Int) := by omega
  have i1 : (0 : Int) ≤ (n : Int) := by omega

  go_wp2_with fail
  go_loopw [12, 13, 50] (fun f g i wr => ∃ k : Nat, k = 0 ∧ i = .int .i64 k ∧ Below w3.heap.size w3 wr) (fun _ _ i _ => n - (intOf i).toNat)
  case atStart => exact ⟨0, rfl, rfl, Below.refl _ _⟩
  case round =>
    obtain ⟨k, hk0, rfl, hbr⟩ := hrel
    have HK0 := Lib.hid hk0
    have hbw := below_trans hbw3 hbr
    have hkn : k < n := by omega
    have hkS : k < S.length := by omega
    obtain ⟨b1', o1, B1, c1, rfl, hb1, -, x0, x1, hX⟩ := (HA.out.below hbw).at_ k hkS
    obtain ⟨b2, o2, B2, c2, rfl, hb2, -, u0, hU, hUI⟩ := (HR.out.below hbw).at_ k (show k < (List.replicate r good).length by simp; omega)
    rw [rep_getD (by omega)] at u0 hU hUI
    have hk00 : hS S k = hS S 0 := by rw [HK0.out]
    have hk01 : vS S k = vS S 0 := by rw [HK0.out]
    rw [hk00] at x0
    rw [hk01] at x1 hX
    have HSP2 := Lib.hid (fun (W : World) (hb : Below wr.heap.size wr W) => HSP.out W (below_trans hbw hb) B1 B2 c1 c2 (hX.ints.below hb) (hUI.ints.below hb) (by rw [len_ofN]; exact hU.iok))
    rw [len_ofN] at HSP2
    generalize hS S 0 = x at *
    generalize vS S 0 = L at *
    have hP := HP3.out.below hbr
    have hQ := HQ3.out.below hbr
    have p0' := hP.c0
    have p1' := hP.c1
    have p2' := hP.c2
    have q0' := hQ.c0
    have q1' := hQ.c1
    have q2' := hQ.c2
    have lq' := hQ.lt
    have lpr := hP.lt
    have j0 : (0 : Int) ≤ (k : Int) := by omega
    have j1 : (k : Int) < (n : Int) := by omega
    have j2 : (k : Int) < (r : Int) := by omega
    clear hX hU hUI hP hQ p03 p13 p23 q03 q13 q23 hk00 hk01 hk0 HSP
    go_wp2_with fail
    refine gen_world fun w7 hw7 => ?_
    have hsc : ShCell w7 wr.heap.size x (.slice B1 L.length c1) := by rw [hw7]; exact ShCell.new _ _ rfl
    have hb7 : Below wr.heap.size wr w7 := by rw [hw7]; exact below_alloc _ _
    have v0 := hsc.c0
    have v1 := hsc.c1
    have lg7 := hsc.lt
    have hz7 := hb7.size
    have lp7 : w.heap.size < w7.heap.size := by omega
    have lz7 : w.heap.size + 1 < w7.heap.size := by omega
    have lb7 : b2 < w7.heap.size := by omega
    have y0 := (hb7.cell (p := ⟨w.heap.size, 0, none⟩) lpr).trans p0'
    have y1 := (hb7.cell (p := ⟨w.heap.size, 1, none⟩) lpr).trans p1'
    have y2 := (hb7.cell (p := ⟨w.heap.size, 2, none⟩) lpr).trans p2'
    have y3 := (hb7.cell (p := ⟨w.heap.size + 1, 0, none⟩) lq').trans q0'
    have y4 := (hb7.cell (p := ⟨w.heap.size + 1, 1, none⟩) lq').trans q1'
    have y5 := (hb7.cell (p := ⟨w.heap.size + 1, 2, none⟩) lq').trans q2'
    have u0 := (hb7.cell (p := ⟨b2, o2 + k, none⟩) hb2).trans u0
    clear hw7 hsc p0' p1' p2' q0' q1' q2' x0 x1
    go_region_held3 (fun w' => w'.cell? ⟨w.heap.size, 0, none⟩ = some (.int .i64 (p : Int)) ∧ w'.cell? ⟨w.heap.size, 1, none⟩ = some (.int .i64 (n : Int)) ∧ w'.cell? ⟨w.heap.size, 2, none⟩ = some (.int .i64 (h : Int)) ∧ w'.cell? ⟨w.heap.size + 1, 0, none⟩ = some (.int .i64 (p : Int)) ∧ w'.cell? ⟨w.heap.size + 1, 1, none⟩ = some (.int .i64 (n1 : Int)) ∧ w'.cell? ⟨w.heap.size + 1, 2, none⟩ = some (.int .i64 (h1 : Int)) ∧ w'.cell? ⟨wr.heap.size, 0, none⟩ = some (.int .i64 x) ∧ w'.cell? ⟨wr.heap.size, 1, none⟩ = some (.slice B1 L.length c1) ∧ w'.cell? ⟨b2, o2 + k, none⟩ = some (.slice B2 good.length c2)) (first | go_keep)
      (first | (go_at_call 43; refine (HSP2.out _ (below_trans hb7 (by (repeat (first | exact bl_refl _ | apply bl_drew | apply bl_alloc))))).mono ?_; rintro e w8 ⟨DA, dc, rfl, -, hb8'⟩; have hb8 : Below w7.heap.size w7 w8 := (by first | exact below_undrew1 hb8' | exact hb8'); have s0 := (hb8.cell (p := ⟨w.heap.size, 0, none⟩) lp7).trans y0; have s1 := (hb8.cell (p := ⟨w.heap.size, 1, none⟩) lp7).trans y1; have s2 := (hb8.cell (p := ⟨w.heap.size, 2, none⟩) lp7).trans y2; have s3 := (hb8.cell (p := ⟨w.heap.size + 1, 0, none⟩) lz7).trans y3; have s4 := (hb8.cell (p := ⟨w.heap.size + 1, 1, none⟩) lz7).trans y4; have s5 := (hb8.cell (p := ⟨w.heap.size + 1, 2, none⟩) lz7).trans y5; have s6 := (hb8.cell (p := ⟨wr.heap.size, 0, none⟩) lg7).trans v0; have s7 := (hb8.cell (p := ⟨wr.heap.size, 1, none⟩) lg7).trans v1; have s8 := (hb8.cell (p := ⟨b2, o2 + k, none⟩) lb7).trans u0))
    all_goals
      have HBX := Lib.hid (below_trans hbw (below_trans hb7 hb8))
      clear hb8' hb8 s0 s1 s2 s3 s4 s5 s6 s7 s8 y0 y1 y2 y3 y4 y5 u0 v0 v1
      go_wp2_with fail
      go_ret2
      exact ShErr.nil _ HBX.out

set_option maxRecDepth 100000 in
set_option maxHeartbeats 8000000 in
theorem refMove_any {P0 P1 : Nat → Prop} (p n h : Nat) (p' n' h' : Int) (A RA : Option Addr) (c rc r : Nat) (S : List Shr) (good : List Nat) (w : World) (P : PlanN p n h) (hA : ShP P0 w A c S) (hR : LstP P1 w RA rc (List.replicate r good)) (hW : ∀ k, k < S.length → (vS S k).length ≤ 64) (hl : S.length ≤ 16) (hgl : good.length ≤ 1000) (hgp : ∀ x ∈ good, x < p) (hr : r ≤ 1000) :
    Calls Tryd.prog 47 #[planV p n h, planV p' n' h', .slice A S.length c, .slice RA r rc] w (ShErr (shL (mvL p n h p' n' h' S good r)) (mvE p n h p' n' h' S good r) w) := by
  have hsh : Short S := fun k hk => by have := hW k hk; omega
  have HCK := Lib.hid (fun (W : World) (hb : Below w.heap.size w W) => refCombine_any p n h A c S W P.pv (hA.below hb) hsh (by omega))
  have HPL := Lib.hid (fun (W : World) (hb : Below w.heap.size w W) => refPlans_toB p n h p' n' h' W P)
  by_cases hcm : cmE p n h S = 0
  · cases hto : toB p p' n' h' with
    | false =>
      have e := mv_to (good := good) (r := r) hcm hto
      rw [mvL_no e (by decide), e]
      rw [hcm] at HCK
      rw [hto] at HPL
      clear e hcm hto hA hR hW hsh hgp P
      go_enter Tryd.func47, Tryd.ntmps47
      go_wp2_with fail
      refine gen_calls fun w1 hw1 => ?_
      have hP : PlanCell w1 w.heap.size p n h := by rw [hw1]; exact (PlanCell.new _ _ _ rfl).alloc _
      have hQ : PlanCell w1 (w.heap.size + 1) p' n' h' := by rw [hw1]; exact PlanCell.new _ _ _ (by simp)
      have hb1 : Below w.heap.size w w1 := by rw [hw1]; exact bl_alloc _ (below_alloc _ _)
      clear hw1
      refine (HCK.out _ hb1).mono ?_
      rintro e w2 ⟨XA2, xc2, rfl, -, -, -, hb2⟩
      have hbw2 := below_trans hb1 hb2
      have HP2 := Lib.hid (hP.below hb2)
      have HQ2 := Lib.hid (hQ.below hb2)
      have p0 := HP2.out.c0
      have p1 := HP2.out.c1
      have p2 := HP2.out.c2
      have q0 := HQ2.out.c0
      have q1 := HQ2.out.c1
      have q2 := HQ2.out.c2
      clear hP hQ hb1 hb2
      go_wp2_with fail
      refine ret_below (HPL.out _ hbw2) fun w3 hb3 => ?_
      have hbw3 := below_trans hbw2 hb3
      have HP3 := Lib.hid (HP2.out.below hb3)
      have HQ3 := Lib.hid (HQ2.out.below hb3)
      clear p0 p1 p2 q0 q1 q2
      go_wp2_with fail
      go_ret2
      exact ShErr.nil _ hbw3
    | true =>
      by_cases hrn : r < n
      · have e := mv_few (good := good) hcm hto hrn
        rw [mvL_no e (by decide), e]
        rw [hcm] at HCK
        rw [hto] at HPL
        have hrn' : (r : Int) < (n : Int) := by omega
        have hrd : decide ((r : Int) < (n : Int)) = true := decide_eq_true hrn'
        clear e hcm hto hA hR hW hsh hgp P
        go_enter Tryd.func47, Tryd.ntmps47
        go_wp2_with fail
        refine gen_calls fun w1 hw1 => ?_
        have hP : PlanCell w1 w.heap.size p n h := by rw [hw1]; exact (PlanCell.new _ _ _ rfl).alloc _
        have hQ : PlanCell w1 (w.heap.size + 1) p' n' h' := by rw [hw1]; exact PlanCell.new _ _ _ (by simp)
        have hb1 : Below w.heap.size w w1 := by rw [hw1]; exact bl_alloc _ (below_alloc _ _)
        clear hw1
        refine (HCK.out _ hb1).mono ?_
        rintro e w2 ⟨XA2, xc2, rfl, -, -, -, hb2⟩
        have hbw2 := below_trans hb1 hb2
        have HP2 := Lib.hid (hP.below hb2)
        have HQ2 := Lib.hid (hQ.below hb2)
        have p0 := HP2.out.c0
        have p1 := HP2.out.c1
        have p2 := HP2.out.c2
        have q0 := HQ2.out.c0
        have q1 := HQ2.out.c1
        have q2 := HQ2.out.c2
        clear hP hQ hb1 hb2
        go_wp2_with fail
        refine ret_below (HPL.out _ hbw2) fun w3 hb3 => ?_
        have hbw3 := below_trans hbw2 hb3
        have HP3 := Lib.hid (HP2.out.below hb3)
        have HQ3 := Lib.hid (HQ2.out.below hb3)
        clear p0 p1 p2 q0 q1 q2
        have p03 := HP3.out.c0
        have p13 := HP3.out.c1
        have p23 := HP3.out.c2
        have q03 := HQ3.out.c0
        have q13 := HQ3.out.c1
        have q23 := HQ3.out.c2
        go_wp2_with fail
        go_ret2
        exact ShErr.nil _ hbw3
      · have e := mv_dl (good := good) hcm hto hrn
        obtain ⟨n1, h1, rfl, rfl, rfl, P'⟩ := toB_nat P hto
        obtain ⟨hgd, hnS⟩ := cm_of hcm
        obtain ⟨hSn, g0⟩ := gd_nat (gdB_of hgd)
        have hS0 : 0 < S.length := by have := P.n1; omega
        have hv0 : (vN (natL S) 0).length = (vS S 0).length := by simp [vN, vS, natL, natS, List.getD_eq_getElem?_getD, hS0]
        have g : GoodW p h (vS S 0).length (natL S) := by rw [← hv0]; exact g0.wide
        have hm0 : (vS S 0).length ≤ 64 := hW 0 hS0
        have hA' : ShP P0 w A c (shL (natL S)) := by rw [← hSn]; exact hA
        by_cases hd : dlE p n1 h1 (vS S 0) (ofN good) = 0
        · have e0 := e.trans hd
          have hrs : Rands p n1 (vS S 0).length n (List.replicate r good) := ⟨fun i hi => by rw [rep_getD (by omega)]; exact dl_len hd P'.n1, fun i hi => by rw [rep_getD (by omega)]; exact hgp⟩
          have eL : mvL p n h p n1 h1 S good r = movedN p n1 h1 (natL S) (List.replicate r good) n := by unfold mvL; rw [if_pos e0]; simp
          rw [eL, e0]
          refine (refMove_good p n h n1 h1 A RA c rc S.length r (vS S 0).length (natL S) (List.replicate r good) w P P' g hm0 hA' hR (by rw [natL_len]; exact hnS) (by rw [natL_len]; exact hl) (natL_len S).symm (by simp) (by simp; omega) (by simp; omega) hrs).mono ?_
          rintro e w' ⟨A', c', rfl, h1', h2'⟩
          exact ⟨A', c', by rw [shL_len, movedN_len], h1', h2'⟩
        · rw [mvL_no e hd, e]
          exact refMove_bad p n h n1 h1 A RA c rc r S good w P P' hA hR hW hl hgl hr hcm hrn hd
  · have e := mv_cm (p' := p') (n' := n') (h' := h') (good := good) (r := r) hcm
    rw [mvL_no e hcm, e]
    have t1 : (cmE p n h S != 0) = true := by simp [hcm]
    generalize cmE p n h S = ce at *
    clear e hcm hA hR hW hsh hgp P
    go_enter Tryd.func47, Tryd.ntmps47
    go_wp2_with fail
    refine gen_calls fun w1 hw1 => ?_
    have hP : PlanCell w1 w.heap.size p n h := by rw [hw1]; exact (PlanCell.new _ _ _ rfl).alloc _
    have hQ : PlanCell w1 (w.heap.size + 1) p' n' h' := by rw [hw1]; exact PlanCell.new _ _ _ (by simp)
    have hb1 : Below w.heap.size w w1 := by rw [hw1]; exact bl_alloc _ (below_alloc _ _)
    clear hw1
    refine (HCK.out _ hb1).mono ?_
    rintro e w2 ⟨XA2, xc2, rfl, -, -, -, hb2⟩
    have hbw2 := below_trans hb1 hb2
    go_wp2_with fail
    go_ret2
    exact ShErr.nil _ hbw2
end Go.Proofs.YtlhipgejiacklaaDoor
