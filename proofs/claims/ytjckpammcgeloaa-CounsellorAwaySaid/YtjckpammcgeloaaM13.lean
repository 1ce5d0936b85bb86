/-
  CounsellorAway's walk.
  A slice of numbers that came in reads as a list.
  Conditions: those that each theorem names.
-/
import Derived.Test.YtjckpammcgeloaaM12
set_option linter.unusedVariables false
set_option linter.unusedSimpArgs false
namespace Go.Proofs.Ytjckpammcgeloaa
open Go.RowKit

def lvF2 (D : DeskD) (id : Int) (u x : Value) : Value := .tuple #[.agg #[u, x], .int .i64 (leaveE D id)]
def acF (D : DeskD) (id : Int) (u x : Value) : Value := .tuple #[.agg #[u, x], caseV (ackK D id), .int .i64 (ackE D id)]
theorem lvF2_inj {D : DeskD} {id : Int} {u x u' x' : Value} (h : lvF2 D id u x = lvF2 D id u' x') : u = u' ∧ x = x' := by
  unfold lvF2 at h; simpa using h
theorem acF_inj {D : DeskD} {id : Int} {u x u' x' : Value} (h : acF D id u x = acF D id u' x') : u = u' ∧ x = x' := by
  unfold acF at h; simpa using h
theorem AcZ.nt {W0 w : World} {Dd : Nat} {R : List Int} {F : Value → Value → Value} {D : DeskD} {V : Nat → Value} {L : Nat → Bool} (h : AcZ W0 Dd R F D V L w) (hL : L 11 = false) : L 13 = false := by
  cases q : L 13 with
  | false => rfl
  | true => have := h.et q; rw [hL] at this; cases this
theorem enter_lv (args : Array Value) (w : World) : (callFunc 13 args).run Try.prog w = .ok (.enter 13 args) w :=
  Go.MuLone.run_callFunc_enter Try.func13 (by kernel_rfl) rfl args w
theorem enter_ack (args : Array Value) (w : World) : (callFunc 14 args).run Try.prog w = .ok (.enter 14 args) w :=
  Go.MuLone.run_callFunc_enter Try.func14 (by kernel_rfl) rfl args w
theorem LwS.storeR {w W : World} {Dd n4 B0 nb : Nat} {R : List Int} {u v : Value} {D D' : DeskD} {A' B' : Option Addr} {ca' cb' : Nat} (h : LwS w W Dd n4 R u v D) (ho : DeskR (fun b => B0 ≤ b ∧ b ≠ nb) W (.agg #[.slice A' D'.cs.length ca', .slice B' D'.ks.length cb']) D') (hl : n4 < B0) :
    LwS w ((W.setCell ⟨n4, 0, none⟩ (.slice A' D'.cs.length ca')).setCell ⟨n4, 1, none⟩ (.slice B' D'.ks.length cb')) Dd n4 R (.slice A' D'.cs.length ca') (.slice B' D'.ks.length cb') D' := by
  have h1 := h.lt
  have h2 := h.lo
  have hk : ∀ k, k ≠ n4 → ((W.setCell ⟨n4, 0, none⟩ (.slice A' D'.cs.length ca')).setCell ⟨n4, 1, none⟩ (.slice B' D'.ks.length cb')).heap[k]? = W.heap[k]? := fun k hk => (Below.heap_setCell _ _ _ k hk).trans (Below.heap_setCell _ _ _ k hk)
  refine ⟨below_set (below_set h.b ⟨n4, 0, none⟩ _ (by show w.heap.size ≤ n4; omega)) ⟨n4, 1, none⟩ _ (by show w.heap.size ≤ n4; omega), h2, h1, h.d.keep fun k hk2 => hk k (by omega), (h.x.set0 _).set1 _, ?_⟩
  exact ((ho.mono (Q := fun b => b ≠ n4 ∧ b ≠ Dd) fun b _ hb => by have := hb.1; omega).keep (Kpt.set _ _ _ fun b hb => hb.1)).keep (Kpt.set _ _ _ fun b hb => hb.1)
theorem DeskR.forms {P : Nat → Prop} {w : World} {u v : Value} {D : DeskD} (h : DeskR P w (.agg #[u, v]) D) : ∃ A ca B cb, u = .slice A D.cs.length ca ∧ v = .slice B D.ks.length cb := by
  obtain ⟨A, ca, B, cb, e, -⟩ := h
  injection e with e
  simp only [Array.mk.injEq, List.cons.injEq, and_true] at e
  exact ⟨A, ca, B, cb, e.1, e.2⟩
theorem abc_cases (R : List Int) : wordV [bAnn, bBob, bCid] R = bAnn ∨ wordV [bAnn, bBob, bCid] R = bBob ∨ wordV [bAnn, bBob, bCid] R = bCid := by
  have h := wordV_in (L := [bAnn, bBob, bCid]) (R := R) (by decide)
  simpa only [List.mem_cons, List.mem_nil_iff, or_false] using h
theorem abc_short (R : List Int) : lngB (wordV [bAnn, bBob, bCid] R) = false ∧ (wordV [bAnn, bBob, bCid] R).size ≤ maxLen := by
  rcases abc_cases R with e | e | e <;> rw [e] <;> exact ⟨by decide, by unfold maxLen; decide⟩
theorem val_small {D : DeskD} (h : Val D) : DeskS D := by
  refine ⟨Nat.le_trans h.lc (by decide), Nat.le_trans h.lk (by decide), fun k hk => ?_, fun k hk => ?_⟩
  · have g := h.cou _ (cAt_in hk)
    unfold maxLen
    refine ⟨by have := g.role.2; omega, by have := g.away; omega, fun j hj => ?_⟩
    have hm : sAt (cAt D.cs k).away j ∈ (cAt D.cs k).away := List.mem_of_getElem? (sAt_get hj)
    have := List.any_eq_false.1 g.long _ hm
    unfold lngB at this
    unfold maxLen
    simp at this; omega
  · obtain ⟨⟨d, hd, -, e⟩, h2, -⟩ := h.cas _ (kAt_in hk)
    have := (h.cou d hd).role.2
    unfold lngB at h2
    unfold maxLen
    rw [← e]
    simp at h2; omega
theorem LwS.nils {w W : World} {Dd n4 : Nat} {R : List Int} {A : Option Addr} {c : Nat} {v : Value} {C : List CouD} {K : List CaseD} (h : LwS w W Dd n4 R (.slice A C.length c) v ⟨C, K⟩) : LwS w (W.setCell ⟨n4, 1, none⟩ (.slice none 0 0)) Dd n4 R (.slice A C.length c) (.slice none 0 0) ⟨C, []⟩ := by
  have h1 := h.lt
  have h2 := h.lo
  obtain ⟨A', ca, B', cb, e, q1, q2⟩ := h.o
  injection e with e
  simp only [Array.mk.injEq, List.cons.injEq, and_true, Value.slice.injEq] at e
  obtain ⟨⟨rfl, -, rfl⟩, -⟩ := e
  exact ⟨below_set h.b ⟨n4, 1, none⟩ _ (by show w.heap.size ≤ n4; omega), h2, h1, h.d.setCell ⟨n4, 1, none⟩ _ (by show Dd < n4; omega), h.x.set1 _, _, _, none, 0, rfl, q1.keep (Kpt.set _ _ _ fun b hb => hb.1), ElP.nil _ _ _⟩
theorem ackD_setS {D : DeskD} {id : Int} (h : ackE D id = 0) : ∃ k, k < D.ks.length ∧ ackD D id = ⟨D.cs, setS D.ks k⟩ ∧ Val D := by
  unfold ackE at h
  split at h
  · cases h
  · rename_i h1
    split at h
    · cases h
    · rename_i h2
      split at h
      · cases h
      · rename_i h3
        have hu : unI D id = ixK (unC id) D.ks := rfl
        rcases ixK_cases zeroK (unC id) D.ks with ⟨e, -⟩ | ⟨k, e, hk, -⟩
        · omega
        · refine ⟨k, hk, ?_, chkE_0.1 (Classical.not_not.1 h1)⟩
          unfold ackD ackE
          rw [if_neg h1, if_neg h2, if_neg h3, if_pos rfl, hu, e, Int.toNat_natCast]
          rfl
theorem caseWho {D : DeskD} (h : Val D) (a : AwK D) {i : Nat} (hi : i < D.ks.length) : ∃ q, q < D.cs.length ∧ (∀ m, m < D.cs.length → ((cAt D.cs m).id == (kAt D.ks i).c) = decide (m = q)) ∧ ((cAt D.cs q).o.toList == (kAt D.ks i).o.toList) = true ∧ ∀ j, j < (cAt D.cs q).away.length → ((sAt (cAt D.cs q).away j).toList == (kAt D.ks i).r.toList) = false := by
  obtain ⟨⟨d, hd, e1, e2⟩, -⟩ := h.cas _ (kAt_in hi)
  have hb := a _ (kAt_in hi) d hd e1
  obtain ⟨q, hq, rfl⟩ := cAt_of hd
  have hc : ∀ k, k < D.cs.length → CouY D.cs k := fun k hk => cou_of.1 ((chk_y.1 (val_of.2 h)).cou k hk)
  refine ⟨q, hq, fun m hm => ?_, by rw [e2]; exact beq_self_eq_true _, fun j hj => ?_⟩
  · by_cases e : m = q
    · subst e; rw [e1]; simp
    · rw [decide_eq_false e]
      cases hx : (cAt D.cs m).id == (kAt D.ks i).c with
      | false => rfl
      | true => exact absurd (ids_eq hc hm hq (by rw [eq_of_beq hx, e1])) e
  · unfold canB at hb
    rw [Bool.and_eq_true] at hb
    have hn : hasS (cAt D.cs q).away (kAt D.ks i).r = false := by simpa using hb.1
    cases hx : (sAt (cAt D.cs q).away j).toList == (kAt D.ks i).r.toList with
    | false => rfl
    | true => rw [hasS_at hj hx] at hn; cases hn
set_option maxRecDepth 100000 in
set_option maxHeartbeats 4000000 in
theorem counsellorAway_walk (A0 : Option Addr) (L0 : List Int) (c0 : Nat) (w : World)
    (hl0 : L0.length ≤ maxLen) (hI0 : IntsAt w A0 L0) (_ : ∀ n ∈ L0, -9223372036854775808 ≤ n ∧ n ≤ 9223372036854775807) :
    Calls Try.prog 3 #[.slice A0 L0.length c0] w (RetB (.bool true) w) := by
  have hL := light_any A0 L0.length c0 w
  by_cases hlight : (L0.length : Int) ≤ 500
  · rw [decide_eq_true hlight] at hL
    have HLt := Lib.hid hL
    clear hL hlight
    go_enter Try.func3, Try.ntmps3
    go_wp2_with fail
    refine ret_pure HLt.out ?_
    clear HLt
    go_wp2_with fail
    refine (roll_any A0 L0 c0 _ hl0 hI0).mono ?_
    rintro e w1 ⟨Dd, rfl, hDs, hD, hb1⟩
    have hDl := hD.lt
    clear hI0
    go_wp2_with fail
    refine (playDesk_any Dd L0 w1 hD).mono ?_
    rintro e w2 ⟨u, v, D, R, rfl, ho, hpc, hcl, hpk, hkl, hd2, hg2⟩
    have hS0 := LwS.start hb1 hDs hDl ho hd2 hg2
    obtain ⟨uA, uc, vA, vc, rfl, rfl⟩ := hS0.forms
    have HS := Lib.hid hS0
    obtain ⟨C, K⟩ := D
    have HPC := Lib.hid (show PlC C from hpc)
    have C4 : C.length ≤ 4 := hcl
    have K6 : K.length ≤ 6 := hkl
    have HSM := Lib.hid (show DeskS ⟨C, K⟩ from PlC.small hpc hpk (by omega) (by omega))
    clear hS0 ho hpc hcl hpk hkl hd2 hg2 hD hb1 hDs hDl
    go_upto_region 5 with fail
    generalize hn4 : w2.heap.size = n4 at *
    refine gen_world fun w5 hw5 => ?_
    rw [← hw5] at HS
    clear hw5 hn4
    have HLN := Lib.hid (show LwS w (w5.setCell ⟨n4, 1, none⟩ (.slice none 0 0)) Dd n4 R (.slice uA C.length uc) (.slice none 0 0) ⟨C, []⟩ from HS.out.nils)
    have HV0 := Lib.hid (HPC.out.val (by omega))
    have x1 := HS.out.x.c1
    have xf := HS.out.x.fz 1
    have xl := HS.out.x.lt
    go_wp2_with fail
    refine gen_calls fun w6 hw6 => ?_
    rw [← hw6] at HLN
    clear hw6 HS x1 xf xl
    refine (next_any Dd R 14 w6 HLN.out.d (by omega)).mono ?_
    rintro e w7 ⟨rfl, hd, hg⟩
    obtain ⟨m1, m2⟩ := nextV_range R 14 (by omega)
    replace HLN := Lib.hid (HLN.out.dice hd hg)
    generalize nextV R 14 = qn at *
    obtain ⟨n0, rfl⟩ := Int.eq_ofNat_of_zero_le m1
    clear hd hg m1
    go_wp2_with fail
    go_loopw [5, 6] (fun t i wr => ∃ (tm k : Nat) (R : List Int) (u v : Value) (D : DeskD), t = .int .i64 tm ∧ i = .int .i64 k ∧ k ≤ 13 ∧ tm + 2 * k ≤ 26 ∧ D.ks.length + k ≤ 13 ∧ Val D ∧ AwK D ∧ (∀ x ∈ D.ks, x.t ≤ tm) ∧ LwS w wr Dd n4 R u v D) (fun _ i _ => (intOf i).toNat)
    case atStart => exact ⟨0, n0, _, _, _, _, rfl, rfl, by omega, by omega, by simp; omega, HV0.out, fun x hx => (by cases hx), fun x hx => (by cases hx), HLN.out⟩
    case round =>
      clear HLN HV0
      obtain ⟨tm, k, R, u, v, D, rfl, rfl, hk13, htm, hkl, hv, ha, ht, hS⟩ := hrel
      have HV := Lib.hid hv
      have HA := Lib.hid ha
      have HT := Lib.hid ht
      have HS := Lib.hid hS
      obtain ⟨uA, uc, vA, vc, rfl, rfl⟩ := hS.forms
      clear hv ha ht hS
      by_cases hk0 : 0 < k
      · have g1 : (0 : Int) < (k : Int) := by omega
        go_wp2_with fail
        refine (next_any Dd R 3 _ HS.out.d (by omega)).mono ?_
        rintro e w8 ⟨rfl, hd, hg⟩
        obtain ⟨p1, p2⟩ := nextV_range R 3 (by omega)
        replace HS := Lib.hid (HS.out.dice hd hg)
        generalize nextV R 3 = qt at *
        obtain ⟨dt, rfl⟩ := Int.eq_ofNat_of_zero_le p1
        generalize R.tail = R at *
        clear hd hg p1
        go_wp2_with fail
        refine (next_any Dd R 5 _ HS.out.d (by omega)).mono ?_
        rintro e w9 ⟨rfl, hd, hg⟩
        obtain ⟨p3, p4⟩ := nextV_range R 5 (by omega)
        replace HS := Lib.hid (HS.out.dice hd hg)
        generalize nextV R 5 = q5 at *
        generalize R.tail = R at *
        clear hd hg
        have HSM := Lib.hid (val_small HV.out)
        have HX := Lib.hid HS.out.x
        have HO := Lib.hid HS.out.o
        have HLT := Lib.hid (show Dd < n4 from HS.out.lt)
        go_upto_block 2 with fail
        go_cut [] from 35 to 181 (fun wx => ∃ R u v D, Val D ∧ AwK D ∧ (∀ x ∈ D.ks, x.t ≤ (tm : Int) + dt) ∧ D.ks.length + k ≤ 14 ∧ LwS w wx Dd n4 R u v D)
        case first =>
          have HT2 := Lib.hid (fun x (hx : x ∈ D.ks) => show x.t ≤ (tm : Int) + dt from by have := HT.out x hx; omega)
          by_cases h0 : q5 = 0
          · subst h0
            obtain ⟨z1, z2⟩ := nextV_range R 4 (by omega)
            obtain ⟨q, hq⟩ : ∃ q, nextV R 4 = q := ⟨_, rfl⟩
            rw [hq] at z1 z2
            have HQ := Lib.hid hq
            clear hq
            go_upto_region 26 with fail
            refine wp_region_J2 (GI (R := fun _ _ => True) [Pr.eq (.agg #[.slice uA D.cs.length uc, .slice vA D.ks.length vc]), Pr.eq (.pointer (some ⟨Dd, 0, none⟩)), Pr.eq (.int .i64 q), Pr.eq (.int .i64 (1 + q)), Pr.eq (.int .i64 (2 * (1 + q))), Pr.any, Pr.any, Pr.any, Pr.eq (.int .i64 (leaveE D (2 * (1 + q)))), Pr.any, Pr.any, Pr.eq (.int .i64 (leaveE D (2 * (1 + q))))] (LvZ w9 Dd R (lvF2 D (2 * (1 + q))) (leaveD D (2 * (1 + q))))) (by kernel_rfl) (by kernel_rfl) (by kernel_rfl) ?_ ?_ ?_
            case refine_1 => exact fun V => GI.start (LvZ.start HS.out.d _)
            case refine_2 =>
              refine JSteps.cons (fun V Ld a W hLi hpre hR hI KK hK => ?_) ?_
              · have o4 := (hR.old 4 (by kernel_rfl)).trans (show _ = Value.pointer (some ⟨n4, 0, none⟩) from rfl)
                have hd := HX.out.keep (hI.st.g.block _ HX.out.lt (fun e => by injection e with e; have := HLT.out; omega))
                exact J_load rfl _ (.tmp 4) rfl (by rw [o4]; exact ld_desk hd) (hK _ _ (hI.put0 0 rfl rfl (hI.st.mv _ (by decide))))
              refine JSteps.cons (fun V Ld a W hLi hpre hR hI KK hK => ?_) ?_
              · have o3 := (hR.old 3 (by kernel_rfl)).trans (show _ = Value.pointer (some ⟨Dd, 0, none⟩) from rfl)
                exact G_move rfl (.tmp 3) rfl o3 (hK _ _ (hI.put0 1 rfl rfl (hI.st.mv _ (by decide))))
              refine JSteps.cons (fun V Ld a W hLi hpre hR hI KK hK => ?_) ?_
              · have p1 : Ld 1 = true := hpre 1 (List.mem_of_elem_eq_true (by kernel_rfl))
                have f1 := (hR.ev 1 rfl rfl p1).trans (hI.val 1 _ rfl p1)
                refine J_call rfl _ _ _ rfl enter_nxt (by simp only [List.map_toArray, List.map_cons, List.map_nil, f1]; rfl) (next_any Dd R 4 W (hI.st.d0 hLi) (by decide)) ?_
                rintro e w' ⟨rfl, hd, hg⟩
                exact ⟨_, rfl, hK _ _ (hI.put trivial 2 rfl (congrArg (Value.int .i64) HQ.out) (hI.st.nx hLi hd hg))⟩
              refine JSteps.cons (fun V Ld a W hLi hpre hR hI KK hK => ?_) ?_
              · have p2 : Ld 2 = true := hpre 2 (List.mem_of_elem_eq_true (by kernel_rfl))
                have f2 := (hR.ev 2 rfl rfl p2).trans (hI.val 2 _ rfl p2)
                exact J_binOp rfl .add _ (.const (.int .i64 1)) (.tmp 97) _ rfl (by rw [f2]; go_simp; exact IntWalk.i64_in _ (by omega)) (hK _ _ (hI.put0 3 rfl rfl (hI.st.mv _ (by decide))))
              refine JSteps.cons (fun V Ld a W hLi hpre hR hI KK hK => ?_) ?_
              · have p3 : Ld 3 = true := hpre 3 (List.mem_of_elem_eq_true (by kernel_rfl))
                have f3 := (hR.ev 3 rfl rfl p3).trans (hI.val 3 _ rfl p3)
                exact J_binOp rfl .mul _ (.const (.int .i64 2)) (.tmp 98) _ rfl (by rw [f3]; go_simp; exact IntWalk.i64_in _ (by omega)) (hK _ _ (hI.put0 4 rfl rfl (hI.st.mv _ (by decide))))
              refine JSteps.cons (fun V Ld a W hLi hpre hR hI KK hK => ?_) ?_
              · have p0 : Ld 0 = true := hpre 0 (List.mem_of_elem_eq_true (by kernel_rfl))
                have f0 := (hR.ev 0 rfl rfl p0).trans (hI.val 0 _ rfl p0)
                have p4 : Ld 4 = true := hpre 4 (List.mem_of_elem_eq_true (by kernel_rfl))
                have f4 := (hR.ev 4 rfl rfl p4).trans (hI.val 4 _ rfl p4)
                have p2 := pm hpre 2 (by kernel_rfl)
                refine J_call rfl _ _ _ rfl enter_lv (by simp only [List.map_toArray, List.map_cons, List.map_nil, f0, f4]) (leave_any _ (2 * (1 + q)) D W (HO.out.keep (Kpt.grown hI.st.g (fun b hb e => hb.2 (by injection e with e; exact e.symm)))) HSM.out) ?_
                rintro e w' ⟨u1, x1, rfl, ho, hb⟩
                exact ⟨_, rfl, hK _ _ (hI.put trivial 5 rfl trivial (hI.st.oc (F := lvF2 D (2 * (1 + q))) hLi p2 hb ho))⟩
              refine JSteps.cons (fun V Ld a W hLi hpre hR hI KK hK => ?_) ?_
              · have p5 : Ld 5 = true := hpre 5 (List.mem_of_elem_eq_true (by kernel_rfl))
                exact G_move rfl (.tmp 100) rfl (hR.ev 5 rfl rfl p5) (hK _ _ (hI.put0 6 rfl trivial (hI.st.om hLi p5 rfl)))
              refine JSteps.cons (fun V Ld a W hLi hpre hR hI KK hK => ?_) ?_
              · have p6 : Ld 6 = true := hpre 6 (List.mem_of_elem_eq_true (by kernel_rfl))
                obtain ⟨q5, q6⟩ := hI.st.em p6
                obtain ⟨u, x, eq, -⟩ := hI.st.dk q5
                exact J_extract rfl (.tmp 94) 0 rfl ((hR.ev 6 rfl rfl p6).trans (q6.trans eq)) rfl (hK _ _ (hI.put0 7 rfl trivial (hI.st.oe hLi p6 (fun u' x' e' => lvF_agg (lvF2_inj (eq.symm.trans (q6.symm.trans e')))))))
              refine JSteps.cons (fun V Ld a W hLi hpre hR hI KK hK => ?_) ?_
              · have p6 : Ld 6 = true := hpre 6 (List.mem_of_elem_eq_true (by kernel_rfl))
                obtain ⟨q5, q6⟩ := hI.st.em p6
                obtain ⟨u, x, eq, -⟩ := hI.st.dk q5
                exact J_extract rfl (.tmp 94) 1 rfl ((hR.ev 6 rfl rfl p6).trans (q6.trans eq)) rfl (hK _ _ (hI.put0 8 rfl rfl (hI.st.mv _ (by decide))))
              refine JSteps.cons (fun V Ld a W hLi hpre hR hI KK hK => ?_) ?_
              · exact J_alloc rfl _ rfl (al_desk W) (hK _ _ (hI.put trivial 9 rfl trivial (hI.st.oa hLi)))
              refine JSteps.cons (fun V Ld a W hLi hpre hR hI KK hK => ?_) ?_
              · have p9 : Ld 9 = true := hpre 9 (List.mem_of_elem_eq_true (by kernel_rfl))
                have p7 : Ld 7 = true := hpre 7 (List.mem_of_elem_eq_true (by kernel_rfl))
                obtain ⟨w', hr, hn⟩ := hI.st.os hLi p7 p9
                exact J_store rfl _ (.tmp 7) (.tmp 101) rfl (by rw [hR.ev 9 rfl rfl p9, hR.ev 7 rfl rfl p7]; exact hr) (hK _ _ (hI.put trivial 10 rfl trivial (hn _)))
              refine JSteps.cons (fun V Ld a W hLi hpre hR hI KK hK => ?_) trivial
              · have p8 : Ld 8 = true := hpre 8 (List.mem_of_elem_eq_true (by kernel_rfl))
                have f8 := (hR.ev 8 rfl rfl p8).trans (hI.val 8 _ rfl p8)
                exact G_assign rfl (.tmp 102) rfl f8 (hK _ _ (hI.put0 11 rfl rfl (hI.st.mv _ (by decide))))
            case refine_3 =>
              intro V Ld w10 hLd hI
              obtain ⟨nb, u1, x1, e9, hnb, -, hcell, hdr, hdd, hgg⟩ := hI.st.fin (fun _ _ _ _ => lvF2_inj) (hLd 10 (by decide)) (hLd 2 (by decide))
              have e11 : V 11 = _ := hI.val 11 _ rfl (hLd 11 (by decide))
              clear hI hLd
              simp only [finL, putL, Act.put, Nat.reduceAdd]
              rw [e9, e11]
              clear e9 e11
              generalize V 0 = v0
              generalize V 1 = v1
              generalize V 2 = v2
              generalize V 3 = v3
              generalize V 4 = v4
              generalize V 5 = v5
              generalize V 6 = v6
              generalize V 7 = v7
              generalize V 8 = v8
              clear V
              simp only [List.setIfInBounds_toArray, List.set_cons_succ, List.set_cons_zero]
              replace HS := Lib.hid (HS.out.dice hdd hgg)
              have HDR := Lib.hid hdr
              have HCE := Lib.hid hcell
              have hn4 : n4 < w9.heap.size := HX.out.lt
              clear hdr hcell hdd hgg HQ HX HO
              by_cases he : leaveE D (2 * (1 + q)) = 0
              · obtain ⟨hv1, hf1⟩ := leave_pos he
                have hlv := leave_val HV.out hf1 (T := (tm : Int) + dt) (by omega) (by omega) HT2.out
                rcases hlv with he2 | ⟨-, hY, hlen, -, haw⟩
                · rw [he] at he2; cases he2
                · have HY := Lib.hid hY
                  have HAW := Lib.hid (haw HA.out)
                  have HLEN := Lib.hid hlen
                  have hE : (leaveE D (2 * (1 + q)) == 0) = true := by simpa using he
                  rw [he]
                  obtain ⟨A1, ca1, B1, cb1, rfl, rfl⟩ := HDR.out.forms
                  clear hY hlen haw
                  have n0 := HCE.out.c0
                  have n1 := HCE.out.c1
                  have nl := HCE.out.lt
                  have x0 := HS.out.x.c0
                  have x1 := HS.out.x.c1
                  have xf0 := HS.out.x.fz 0
                  have xf1 := HS.out.x.fz 1
                  have xl := HS.out.x.lt
                  go_wp2_with fail
                  go_meet
                  case rel => exact ⟨_, _, _, leaveD D (2 * (1 + q)), HY.out.v, HAW.out, HY.out.t, by have := HLEN.out; omega, HS.out.storeR HDR.out hn4⟩
              · have hE : (leaveE D (2 * (1 + q)) == 0) = false := by simpa using he
                generalize leaveE D (2 * (1 + q)) = er at *
                go_wp2_with fail
                go_meet
                case rel => exact ⟨_, _, _, D, HV.out, HA.out, HT2.out, by omega, HS.out⟩
          · by_cases h1 : q5 = 1
            · subst h1
              obtain ⟨z1, z2⟩ := nextV_range R 4 (by omega)
              obtain ⟨q, hq⟩ : ∃ q, nextV R 4 = q := ⟨_, rfl⟩
              rw [hq] at z1 z2
              have HQ := Lib.hid hq
              clear hq
              go_upto_region 30 with fail
              refine wp_region_J2 (GI (R := fun _ _ => True) [Pr.eq (.agg #[.slice uA D.cs.length uc, .slice vA D.ks.length vc]), Pr.eq (.pointer (some ⟨Dd, 0, none⟩)), Pr.eq (.int .i64 q), Pr.eq (.int .i64 (1 + q)), Pr.eq (.int .i64 (2 * (1 + q))), Pr.any, Pr.any, Pr.any, Pr.eq (caseV (ackK D (2 * (1 + q)))), Pr.eq (.int .i64 (ackE D (2 * (1 + q)))), Pr.any, Pr.any, Pr.any, Pr.any, Pr.eq (.int .i64 (ackE D (2 * (1 + q))))] (AcZ w9 Dd R (acF D (2 * (1 + q))) (ackD D (2 * (1 + q))))) (by kernel_rfl) (by kernel_rfl) (by kernel_rfl) ?_ ?_ ?_
              case refine_1 => exact fun V => GI.start (AcZ.start HS.out.d _)
              case refine_2 =>
                refine JSteps.cons (fun V Ld a W hLi hpre hR hI KK hK => ?_) ?_
                · have o4 := (hR.old 4 (by kernel_rfl)).trans (show _ = Value.pointer (some ⟨n4, 0, none⟩) from rfl)
                  have hd := HX.out.keep (hI.st.g.block _ HX.out.lt (fun e => by injection e with e; have := HLT.out; omega))
                  exact J_load rfl _ (.tmp 4) rfl (by rw [o4]; exact ld_desk hd) (hK _ _ (hI.put0 0 rfl rfl (hI.st.mv _ (by decide))))
                refine JSteps.cons (fun V Ld a W hLi hpre hR hI KK hK => ?_) ?_
                · have o3 := (hR.old 3 (by kernel_rfl)).trans (show _ = Value.pointer (some ⟨Dd, 0, none⟩) from rfl)
                  exact G_move rfl (.tmp 3) rfl o3 (hK _ _ (hI.put0 1 rfl rfl (hI.st.mv _ (by decide))))
                refine JSteps.cons (fun V Ld a W hLi hpre hR hI KK hK => ?_) ?_
                · have p1 : Ld 1 = true := hpre 1 (List.mem_of_elem_eq_true (by kernel_rfl))
                  have f1 := (hR.ev 1 rfl rfl p1).trans (hI.val 1 _ rfl p1)
                  refine J_call rfl _ _ _ rfl enter_nxt (by simp only [List.map_toArray, List.map_cons, List.map_nil, f1]; rfl) (next_any Dd R 4 W (hI.st.d0 hLi) (by decide)) ?_
                  rintro e w' ⟨rfl, hd, hg⟩
                  exact ⟨_, rfl, hK _ _ (hI.put trivial 2 rfl (congrArg (Value.int .i64) HQ.out) (hI.st.nx hLi hd hg))⟩
                refine JSteps.cons (fun V Ld a W hLi hpre hR hI KK hK => ?_) ?_
                · have p2 : Ld 2 = true := hpre 2 (List.mem_of_elem_eq_true (by kernel_rfl))
                  have f2 := (hR.ev 2 rfl rfl p2).trans (hI.val 2 _ rfl p2)
                  exact J_binOp rfl .add _ (.const (.int .i64 1)) (.tmp 111) _ rfl (by rw [f2]; go_simp; exact IntWalk.i64_in _ (by omega)) (hK _ _ (hI.put0 3 rfl rfl (hI.st.mv _ (by decide))))
                refine JSteps.cons (fun V Ld a W hLi hpre hR hI KK hK => ?_) ?_
                · have p3 : Ld 3 = true := hpre 3 (List.mem_of_elem_eq_true (by kernel_rfl))
                  have f3 := (hR.ev 3 rfl rfl p3).trans (hI.val 3 _ rfl p3)
                  exact J_binOp rfl .mul _ (.const (.int .i64 2)) (.tmp 112) _ rfl (by rw [f3]; go_simp; exact IntWalk.i64_in _ (by omega)) (hK _ _ (hI.put0 4 rfl rfl (hI.st.mv _ (by decide))))
                refine JSteps.cons (fun V Ld a W hLi hpre hR hI KK hK => ?_) ?_
                · have p0 : Ld 0 = true := hpre 0 (List.mem_of_elem_eq_true (by kernel_rfl))
                  have f0 := (hR.ev 0 rfl rfl p0).trans (hI.val 0 _ rfl p0)
                  have p4 : Ld 4 = true := hpre 4 (List.mem_of_elem_eq_true (by kernel_rfl))
                  have f4 := (hR.ev 4 rfl rfl p4).trans (hI.val 4 _ rfl p4)
                  have p2 := pm hpre 2 (by kernel_rfl)
                  refine J_call rfl _ _ _ rfl enter_ack (by simp only [List.map_toArray, List.map_cons, List.map_nil, f0, f4]) (ack_any _ (2 * (1 + q)) D W (HO.out.keep (Kpt.grown hI.st.g (fun b hb e => hb.2 (by injection e with e; exact e.symm)))) HSM.out) ?_
                  rintro e w' ⟨u1, x1, rfl, ho, hb⟩
                  exact ⟨_, rfl, hK _ _ (hI.put trivial 5 rfl trivial (hI.st.oc (F := acF D (2 * (1 + q))) hLi p2 hb ho))⟩
                refine JSteps.cons (fun V Ld a W hLi hpre hR hI KK hK => ?_) ?_
                · have p5 : Ld 5 = true := hpre 5 (List.mem_of_elem_eq_true (by kernel_rfl))
                  exact G_move rfl (.tmp 114) rfl (hR.ev 5 rfl rfl p5) (hK _ _ (hI.put0 6 rfl trivial (hI.st.om hLi p5 rfl)))
                refine JSteps.cons (fun V Ld a W hLi hpre hR hI KK hK => ?_) ?_
                · have p6 : Ld 6 = true := hpre 6 (List.mem_of_elem_eq_true (by kernel_rfl))
                  obtain ⟨q5, q6⟩ := hI.st.em p6
                  obtain ⟨u, x, eq, -⟩ := hI.st.dk q5
                  exact J_extract rfl (.tmp 108) 0 rfl ((hR.ev 6 rfl rfl p6).trans (q6.trans eq)) rfl (hK _ _ (hI.put0 7 rfl trivial (hI.st.oe hLi p6 (fun u' x' e' => lvF_agg (acF_inj (eq.symm.trans (q6.symm.trans e')))))))
                refine JSteps.cons (fun V Ld a W hLi hpre hR hI KK hK => ?_) ?_
                · have p6 : Ld 6 = true := hpre 6 (List.mem_of_elem_eq_true (by kernel_rfl))
                  obtain ⟨q5, q6⟩ := hI.st.em p6
                  obtain ⟨u, x, eq, -⟩ := hI.st.dk q5
                  exact J_extract rfl (.tmp 108) 1 rfl ((hR.ev 6 rfl rfl p6).trans (q6.trans eq)) rfl (hK _ _ (hI.put0 8 rfl rfl (hI.st.mv _ (by decide))))
                refine JSteps.cons (fun V Ld a W hLi hpre hR hI KK hK => ?_) ?_
                · have p6 : Ld 6 = true := hpre 6 (List.mem_of_elem_eq_true (by kernel_rfl))
                  obtain ⟨q5, q6⟩ := hI.st.em p6
                  obtain ⟨u, x, eq, -⟩ := hI.st.dk q5
                  exact J_extract rfl (.tmp 108) 2 rfl ((hR.ev 6 rfl rfl p6).trans (q6.trans eq)) rfl (hK _ _ (hI.put0 9 rfl rfl (hI.st.mv _ (by decide))))
                refine JSteps.cons (fun V Ld a W hLi hpre hR hI KK hK => ?_) ?_
                · exact J_alloc rfl _ rfl (al_desk W) (hK _ _ (hI.put trivial 10 rfl trivial (hI.st.oa hLi)))
                refine JSteps.cons (fun V Ld a W hLi hpre hR hI KK hK => ?_) ?_
                · exact J_alloc rfl _ rfl (al_case W) (hK _ _ (hI.put trivial 11 rfl trivial (hI.st.ok hLi (hI.st.nt hLi))))
                refine JSteps.cons (fun V Ld a W hLi hpre hR hI KK hK => ?_) ?_
                · have p10 : Ld 10 = true := hpre 10 (List.mem_of_elem_eq_true (by kernel_rfl))
                  have p7 : Ld 7 = true := hpre 7 (List.mem_of_elem_eq_true (by kernel_rfl))
                  obtain ⟨w', hr, hn⟩ := hI.st.os hLi p7 p10
                  exact J_store rfl _ (.tmp 9) (.tmp 115) rfl (by rw [hR.ev 10 rfl rfl p10, hR.ev 7 rfl rfl p7]; exact hr) (hK _ _ (hI.put trivial 12 rfl trivial (hn _)))
                refine JSteps.cons (fun V Ld a W hLi hpre hR hI KK hK => ?_) ?_
                · have p11 : Ld 11 = true := hpre 11 (List.mem_of_elem_eq_true (by kernel_rfl))
                  have p8 : Ld 8 = true := hpre 8 (List.mem_of_elem_eq_true (by kernel_rfl))
                  have f8 := (hR.ev 8 rfl rfl p8).trans (hI.val 8 _ rfl p8)
                  obtain ⟨w', hr, hn⟩ := hI.st.ot hLi p11 (ackK D (2 * (1 + q)))
                  exact J_store rfl _ (.tmp 10) (.tmp 116) rfl (by rw [hR.ev 11 rfl rfl p11, f8]; exact hr) (hK _ _ (hI.put trivial 13 rfl trivial (hn _)))
                refine JSteps.cons (fun V Ld a W hLi hpre hR hI KK hK => ?_) trivial
                · have p9 : Ld 9 = true := hpre 9 (List.mem_of_elem_eq_true (by kernel_rfl))
                  have f9 := (hR.ev 9 rfl rfl p9).trans (hI.val 9 _ rfl p9)
                  exact G_assign rfl (.tmp 117) rfl f9 (hK _ _ (hI.put0 14 rfl rfl (hI.st.mv _ (by decide))))
              case refine_3 =>
                intro V Ld w10 hLd hI
                obtain ⟨nb, u1, x1, e9, hnb, -, hcell, hdr, hdd, hgg⟩ := hI.st.fin (fun _ _ _ _ => acF_inj) (hLd 12 (by decide)) (hLd 2 (by decide))
                have e11 : V 14 = _ := hI.val 14 _ rfl (hLd 14 (by decide))
                clear hI hLd
                simp only [finL, putL, Act.put, Nat.reduceAdd]
                rw [e9, e11]
                clear e9 e11
                generalize V 0 = v0
                generalize V 1 = v1
                generalize V 2 = v2
                generalize V 3 = v3
                generalize V 4 = v4
                generalize V 5 = v5
                generalize V 6 = v6
                generalize V 7 = v7
                generalize V 8 = v8
                generalize V 9 = v9
                generalize V 11 = v11
                clear V
                simp only [List.setIfInBounds_toArray, List.set_cons_succ, List.set_cons_zero]
                replace HS := Lib.hid (HS.out.dice hdd hgg)
                have HDR := Lib.hid hdr
                have HCE := Lib.hid hcell
                have hn4 : n4 < w9.heap.size := HX.out.lt
                clear hdr hcell hdd hgg HQ HX HO
                by_cases he : ackE D (2 * (1 + q)) = 0
                · obtain ⟨kk, hkk, hD, -⟩ := ackD_setS he
                  have HKK := Lib.hid hkk
                  have HDD := Lib.hid hD
                  have hE : (ackE D (2 * (1 + q)) == 0) = true := by simpa using he
                  rw [he]
                  rw [hD] at HDR
                  obtain ⟨A1, ca1, B1, cb1, rfl, rfl⟩ := HDR.out.forms
                  clear hkk hD
                  have n0 := HCE.out.c0
                  have n1 := HCE.out.c1
                  have nl := HCE.out.lt
                  have x0 := HS.out.x.c0
                  have x1 := HS.out.x.c1
                  have xf0 := HS.out.x.fz 0
                  have xf1 := HS.out.x.fz 1
                  have xl := HS.out.x.lt
                  go_wp2_with fail
                  go_meet
                  case rel => exact ⟨_, _, _, ⟨D.cs, setS D.ks kk⟩, set_val HKK.out HV.out, set_aw HKK.out HA.out, fun x hx => by obtain ⟨y, hy, -, -, -, e⟩ := setS_mem HKK.out hx; rw [e]; exact HT2.out y hy, by show (setS D.ks kk).length + k ≤ 14; unfold setS; rw [List.length_set]; omega, HS.out.storeR (D' := ⟨D.cs, setS D.ks kk⟩) HDR.out hn4⟩
                · have hE : (ackE D (2 * (1 + q)) == 0) = false := by simpa using he
                  generalize ackE D (2 * (1 + q)) = er at *
                  go_wp2_with fail
                  go_meet
                  case rel => exact ⟨_, _, _, D, HV.out, HA.out, HT2.out, by omega, HS.out⟩
            · have e0 : (q5 == 0) = false := by simpa using h0
              have e1 : (q5 == 1) = false := by simpa using h1
              clear HX HO HLT
              go_wp2_with fail
              refine gen_calls fun w10 hw => ?_
              have hb : Below w9.heap.size w9 w10 := by rw [hw]; exact below_alloc _ _
              have HI := Lib.hid (show ElP ES (fun b => b ≠ Dd) w10 (some ⟨w9.heap.size, 0, none⟩) 3 [bAnn, bBob, bCid] from by rw [hw]; exact (lit_strs w9 [bAnn, bBob, bCid] 3 rfl (by simp)).mono fun b _ e => by have := HS.out.d.lt; omega)
              replace HS := Lib.hid (HS.out.below hb)
              clear hw hb
              refine (word_any Dd R _ [bAnn, bBob, bCid] 3 w10 HS.out.d HI.out (by simp) (by simp)).mono ?_
              rintro e w11 ⟨rfl, hd, hg⟩
              replace HS := Lib.hid (HS.out.dice hd hg)
              have HWS := Lib.hid (abc_short R)
              generalize wordV [bAnn, bBob, bCid] R = who at *
              generalize R.tail = R at *
              clear hd hg HI
              go_wp2_with fail
              refine gen_calls fun w12 hw => ?_
              have hb : Below w11.heap.size w11 w12 := by rw [hw]; exact below_alloc _ _
              have HI := Lib.hid (show ElP ES (fun b => b ≠ Dd) w12 (some ⟨w11.heap.size, 0, none⟩) 2 [bHr, bLegal] from by rw [hw]; exact (lit_strs w11 [bHr, bLegal] 2 rfl (by simp)).mono fun b _ e => by have := HS.out.d.lt; omega)
              replace HS := Lib.hid (HS.out.below hb)
              clear hw hb
              refine (word_any Dd R _ [bHr, bLegal] 2 w12 HS.out.d HI.out (by simp) (by simp)).mono ?_
              rintro e w13 ⟨rfl, hd, hg⟩
              replace HS := Lib.hid (HS.out.dice hd hg)
              have HRS := Lib.hid (trivial)
              generalize wordV [bHr, bLegal] R = role at *
              generalize R.tail = R at *
              clear hd hg HI
              have x0 := HS.out.x.c0
              have x1 := HS.out.x.c1
              have xl := HS.out.x.lt
              go_wp2_with fail
              refine (give_any _ who role ((tm : Int) + dt) D w13 HS.out.o HSM.out HWS.out.2).mono ?_
              rintro e w14 ⟨u1, v1, rfl, ho, hb⟩
              have HS13 := Lib.hid HS.out.x.lt
              have hge := giveE_yes (o := role) HV.out HWS.out.1 ⟨by omega, by omega⟩ (lastT_le (T := (tm : Int) + dt) (by omega) HT2.out) (by omega : D.ks.length < 256)
              replace HS := Lib.hid (HS.out.below hb)
              clear x0 x1 xl
              by_cases hch : chD D who role = 0
              · rw [if_pos hch] at hge
                rw [hge]
                obtain ⟨A1, ca1, B1, cb1, rfl, rfl⟩ := ho.forms
                have HB2 := Lib.hid (below_alloc w14 (.cells #[.slice A1 (giveD D who role ((tm : Int) + dt)).cs.length ca1, .slice B1 (giveD D who role ((tm : Int) + dt)).ks.length cb1] 30))
                clear ho hb
                go_wp2_with fail
                go_roundw
                case rel => exact ⟨tm + dt, k - 1, _, _, _, D, by go_num, by go_num, by omega, by omega, by omega, HV.out, HA.out, fun x hx => by have := HT2.out x hx; omega, HS.out.below HB2.out⟩
                case measure => simp [intOf]; omega
              · rw [if_neg hch] at hge
                have HVG := Lib.hid (give_val hge)
                have HAG := Lib.hid (give_aw hge HA.out)
                have HSTY := Lib.hid (fun x (hx : D.ks.reverse.find? (hitK who role) = some x) => give_stays hge HA.out hx)
                have hgd := giveD_ok hge
                have HTG := Lib.hid (show ∀ x ∈ (giveD D who role ((tm : Int) + dt)).ks, x.t ≤ (tm : Int) + dt from fun x hx => by
                  rw [hgd] at hx
                  rcases List.mem_append.1 hx with h | h
                  · exact HT2.out x h
                  · rw [List.mem_singleton] at h; subst h; exact Int.le_refl _)
                have HLG := Lib.hid (show (giveD D who role ((tm : Int) + dt)).ks.length = D.ks.length + 1 from by rw [hgd]; simp)
                have hgi : giveI D who role ((tm : Int) + dt) = chD D who role := by unfold giveI; rw [hge, if_pos rfl]
                rw [hge, hgi]
                clear hgi hgd hge
                generalize chD D who role = cid at *
                generalize giveD D who role ((tm : Int) + dt) = G at *
                obtain ⟨A1, ca1, B1, cb1, rfl, rfl⟩ := ho.forms
                have HOG := Lib.hid ho
                have hn4 : n4 < w13.heap.size := by have := HS13.out; omega
                have x1 := HS.out.x.c1
                have xl := HS.out.x.lt
                clear ho hb
                go_wp2_with fail
                refine gen_world fun w15 hw => ?_
                have hb : Below w14.heap.size w14 w15 := by rw [hw]; exact below_alloc _ _
                have HYC := Lib.hid (show DeskCell w15 w14.heap.size (.slice A1 G.cs.length ca1) (.slice B1 G.ks.length cb1) from by rw [hw]; exact DeskCell.new _ _ rfl)
                replace HS := Lib.hid (HS.out.below hb)
                replace HOG := Lib.hid (HOG.out.below hb)
                clear hw hb x1 xl
                generalize w14.heap.size = n14 at *
                go_loopw [17] (fun i wr => ∃ j : Nat, i = .int .i64 ((j : Int) - 1) ∧ j ≤ D.ks.length ∧ (∀ m, j ≤ m → m < D.ks.length → hitK who role (kAt D.ks m) = false) ∧ Below w15.heap.size w15 wr) (fun i _ => (intOf i + 1).toNat)
                case atStart => exact ⟨D.ks.length, rfl, Nat.le_refl _, fun m h1 h2 => absurd h2 (by omega), Below.refl _ _⟩
                case round =>
                  obtain ⟨j, rfl, hj, hno, hbr⟩ := hrel
                  have HNO := Lib.hid hno
                  replace HS := Lib.hid (HS.out.below hbr)
                  replace HOG := Lib.hid (HOG.out.below hbr)
                  replace HYC := Lib.hid (HYC.out.below hbr)
                  have HBR := Lib.hid hbr
                  clear hno hbr
                  have x0 := HS.out.x.c0
                  have x1 := HS.out.x.c1
                  have xf0 := HS.out.x.fz 0
                  have xf1 := HS.out.x.fz 1
                  have xl := HS.out.x.lt
                  have y0 := HYC.out.c0
                  have y1 := HYC.out.c1
                  have yl := HYC.out.lt
                  by_cases hj0 : 0 < j
                  · obtain ⟨i, rfl⟩ : ∃ i, j = i + 1 := ⟨j - 1, by omega⟩
                    rw [show ((i + 1 : Nat) : Int) - 1 = (i : Int) by omega]
                    have g1 : (0 : Int) ≤ (i : Int) := by omega
                    have hil : i < D.ks.length := by omega
                    have hili : (i : Int) < (D.ks.length : Int) := by omega
                    obtain ⟨kb, ko, rfl, hkb, -, k0, k1, k2, k3, k4⟩ := HS.out.o.cou.2.case hil
                    have HSI := Lib.hid (fun (h : hitK who role (kAt D.ks i) = true) => HSTY.out _ (find_rev hil h (fun m h1 h2 => HNO.out m h1 h2)))
                    have HNX := Lib.hid (fun (h : hitK who role (kAt D.ks i) = false) m (h1 : i ≤ m) (h2 : m < D.ks.length) => show hitK who role (kAt D.ks m) = false from by
                      by_cases e : m = i
                      · rw [e]; exact h
                      · exact HNO.out m (by omega) h2)
                    have HUN := Lib.hid (show hitK who role (kAt D.ks i) = (eqS (kAt D.ks i).r who && eqS (kAt D.ks i).o role) from rfl)
                    cases ht1 : eqS (kAt D.ks i).r who with
                    | false =>
                      have HF := Lib.hid (HNX.out (by rw [HUN.out, ht1]; rfl))
                      have he1 : ((kAt D.ks i).r.toList == who.toList) = false := ht1
                      clear ht1
                      go_wp2_with fail
                      go_roundw
                      case rel => exact ⟨i, rfl, by omega, HF.out, below_trans HBR.out (below_alloc _ _)⟩
                      case measure => simp [intOf]
                    | true =>
                      cases ht2 : eqS (kAt D.ks i).o role with
                      | false =>
                        have HF := Lib.hid (HNX.out (by rw [HUN.out, ht1, ht2]; rfl))
                        have he1 : ((kAt D.ks i).r.toList == who.toList) = true := ht1
                        have he2 : ((kAt D.ks i).o.toList == role.toList) = false := ht2
                        clear ht1 ht2
                        go_wp2_with fail
                        go_roundw
                        case rel => exact ⟨i, rfl, by omega, HF.out, below_trans HBR.out (below_alloc _ _)⟩
                        case measure => simp [intOf]
                      | true =>
                        have hcc := HSI.out (by rw [HUN.out, ht1, ht2]; rfl)
                        have he1 : ((kAt D.ks i).r.toList == who.toList) = true := ht1
                        have he2 : ((kAt D.ks i).o.toList == role.toList) = true := ht2
                        have he3 : ((kAt D.ks i).c != cid) = false := by simp [hcc]
                        rw [hcc] at k0
                        clear ht1 ht2 hcc
                        go_wp2_with fail
                        go_meet
                        case rel => exact ⟨_, _, _, G, HVG.out, HAG.out, HTG.out, by have := HLG.out; omega, (HS.out.store HOG.out hn4).below (below_alloc _ _)⟩
                  · have g1 : ¬ (0 : Int) ≤ (j : Int) - 1 := by omega
                    go_wp2_with fail
                    go_meet
                    case rel => exact ⟨_, _, _, G, HVG.out, HAG.out, HTG.out, by have := HLG.out; omega, HS.out.store HOG.out hn4⟩
        case rest =>
          obtain ⟨R2, u2, v2, E, hv, ha, ht, hkl, hS⟩ := hcut
          have HV := Lib.hid hv
          have HA := Lib.hid ha
          have HT := Lib.hid ht
          have HS := Lib.hid hS
          obtain ⟨yA, yc, zA, zc, rfl, rfl⟩ := hS.forms
          clear hv ha ht hS
          obtain ⟨C, K⟩ := E
          have hC : C.length ≤ 32 := HV.out.lc
          have hKl : K.length ≤ 14 := by have h0 : K.length + k ≤ 14 := hkl; omega
          have HCC := Lib.hid HS.out.o.cou.1
          have HKK := Lib.hid HS.out.o.cou.2
          have D00 := Lib.hid (show wc.cell? ⟨n4, 0, none⟩ = some (.slice yA C.length yc) from HS.out.x.c0)
          have D01 := Lib.hid (show wc.cell? ⟨n4, 1, none⟩ = some (.slice zA K.length zc) from HS.out.x.c1)
          have LDX := Lib.hid HS.out.x.lt
          go_wp2_with fail
          go_loopw [19] (fun i wr => ∃ j : Nat, j ≤ K.length ∧ i = .int .i64 j ∧ Below wc.heap.size wc wr) (fun i _ => K.length - (intOf i).toNat)
          case atStart => exact ⟨0, Nat.zero_le _, rfl, Below.refl _ _⟩
          case round =>
            obtain ⟨i, hi, rfl, hbr⟩ := hrel
            have HBR := Lib.hid hbr
            clear hbr
            have x1 := (HBR.out.cell LDX.out).trans D01.out
            have xl : n4 < wr.heap.size := Nat.lt_of_lt_of_le LDX.out HBR.out.size
            by_cases hil : i < K.length
            · have hili : (i : Int) < (K.length : Int) := by omega
              have i0 : (0 : Int) ≤ (i : Int) := by omega
              obtain ⟨q, hq, hiff, hrole, haw⟩ := caseWho HV.out HA.out hil
              have HIF := Lib.hid (fun m (hm : m < C.length) => show ((cAt C m).id == (kAt K i).c) = decide (m = q) from hiff m hm)
              have HRO := Lib.hid (show ((cAt C q).o.toList == (kAt K i).o.toList) = true from hrole)
              have HAWY := Lib.hid (fun j (hj : j < (cAt C q).away.length) => show ((sAt (cAt C q).away j).toList == (kAt K i).r.toList) = false from haw j hj)
              have hqC : q < C.length := hq
              obtain ⟨kb, ko, rfl, hkb, -, k0, k1, k2, -, -⟩ := HKK.out.case hil
              have K00 := Lib.hid k0
              have K01 := Lib.hid k1
              have K02 := Lib.hid k2
              have LKX := Lib.hid hkb
              clear hiff hrole haw hq k0 k1 k2 hkb
              go_wp2_with fail
              go_loopw [20, 21] (fun b kk wr2 => ∃ m : Nat, m ≤ C.length ∧ kk = .int .i64 m ∧ b = .bool (decide (q < m)) ∧ Below wc.heap.size wc wr2) (fun _ kk _ => C.length - (intOf kk).toNat)
              case atStart => exact ⟨0, Nat.zero_le _, rfl, by rw [decide_eq_false (by omega)], HBR.out⟩
              case round =>
                obtain ⟨m, hm, rfl, rfl, hbr2⟩ := hrel
                clear x1 xl
                have HB2 := Lib.hid hbr2
                have x0 := (hbr2.cell LDX.out).trans D00.out
                have x1 := (hbr2.cell LDX.out).trans D01.out
                have xl : n4 < wr.heap.size := Nat.lt_of_lt_of_le LDX.out hbr2.size
                by_cases hmC : m < C.length
                · have hmCi : (m : Int) < (C.length : Int) := by omega
                  have m0 : (0 : Int) ≤ (m : Int) := by omega
                  obtain ⟨cb, co, AA, an, ac, rfl, hcb0, -, c0, c1, c2, rfl, haE⟩ := HCC.out.one hmC
                  have HAE := Lib.hid haE
                  have hal : (cAt C m).away.length ≤ 256 := (HV.out.cou _ (cAt_in hmC)).away
                  replace c0 := (hbr2.cell (p := ⟨cb, co + m * 3, none⟩) hcb0).trans c0
                  replace c1 := (hbr2.cell (p := ⟨cb, co + m * 3 + 1, none⟩) hcb0).trans c1
                  replace c2 := (hbr2.cell (p := ⟨cb, co + m * 3 + 2, none⟩) hcb0).trans c2
                  have hcb : cb < wr.heap.size := Nat.lt_of_lt_of_le hcb0 hbr2.size
                  clear hbr2 haE hcb0
                  by_cases hmq : m = q
                  · subst hmq
                    have HD1 := Lib.hid (show decide (m < m + 1) = true from decide_eq_true (by omega))
                    have NE := Lib.hid (show ((cAt C m).id == (kAt K i).c) = true from by rw [HIF.out m hmC]; simp)
                    rw [decide_eq_false (show ¬ m < m by omega)]
                    go_wp2_with fail
                    refine gen_world fun w0 hw0 => ?_
                    have HW0 := Lib.hid (show Below wr.heap.size wr w0 from by rw [hw0]; exact below_alloc _ _)
                    have hvc : CouC w0 wr.heap.size (cAt C m).id (cAt C m).o (.slice AA (cAt C m).away.length ac) := by rw [hw0]; exact CouC.new _ _ _ _
                    have LV := Lib.hid (show wr.heap.size < w0.heap.size from by rw [hw0]; simp)
                    have V0 := Lib.hid hvc.c0
                    have V1 := Lib.hid hvc.c1
                    have V2 := Lib.hid hvc.c2
                    have HWX := Lib.hid (below_trans HB2.out HW0.out)
                    have K0 := Lib.hid ((HWX.out.cell LKX.out).trans K00.out)
                    have K1 := Lib.hid ((HWX.out.cell LKX.out).trans K01.out)
                    have K2 := Lib.hid ((HWX.out.cell LKX.out).trans K02.out)
                    have D1 := Lib.hid ((HWX.out.cell LDX.out).trans D01.out)
                    have LK := Lib.hid (Nat.lt_of_lt_of_le LKX.out HWX.out.size)
                    have LD := Lib.hid (Nat.lt_of_lt_of_le LDX.out HWX.out.size)
                    clear hw0 hvc x0 x1 xl c0 c1 c2 hcb HW0
                    generalize wr.heap.size = vb at *
                    refine wp_region_J2 (GI (R := Bl) [Pr.eq (.pointer (some ⟨vb, 0, none⟩)), Pr.eq (.int .i64 ((cAt C m).id)), Pr.eq (.pointer (some ⟨n4, 1, none⟩)), Pr.eq (.slice (some ⟨kb, ko, none⟩) K.length zc), Pr.eq (.int .i64 ((i : Int))), Pr.eq (.pointer (some ⟨kb, ko + i * 5, none⟩)), Pr.eq (.pointer (some ⟨kb, ko + i * 5, none⟩)), Pr.eq (.int .i64 ((kAt K i).c)), Pr.eq (.bool false)] (GrS w0)) (by kernel_rfl) (by kernel_rfl) (by kernel_rfl) ?_ ?_ ?_
                    case refine_1 => exact fun V => GI.start (GrS.start _ _ _)
                    case refine_2 =>
                      refine JSteps.cons (fun V Ld a W hLi hpre hR hI KK hK => ?_) ?_
                      · have o22 := (hR.old 22 (by kernel_rfl)).trans (show _ = Value.pointer (some ⟨vb, 0, none⟩) from rfl)
                        exact J_fieldAddr rfl _ (.tmp 22) 0 rfl (by rw [o22]; go_simp) (hK _ _ (hI.put0 0 rfl rfl hI.st.up))
                      refine JSteps.cons (fun V Ld a W hLi hpre hR hI KK hK => ?_) ?_
                      · have p0 : Ld 0 = true := hpre 0 (List.mem_of_elem_eq_true (by kernel_rfl))
                        have f0 := (hR.ev 0 rfl rfl p0).trans (hI.val 0 _ rfl p0)
                        have c := (hI.st.bl.cell LV.out).trans V0.out
                        exact J_load rfl _ (.tmp 140) rfl (by rw [f0]; go_simp) (hK _ _ (hI.put0 1 rfl rfl hI.st.up))
                      refine JSteps.cons (fun V Ld a W hLi hpre hR hI KK hK => ?_) ?_
                      · have o4 := (hR.old 4 (by kernel_rfl)).trans (show _ = Value.pointer (some ⟨n4, 0, none⟩) from rfl)
                        exact J_fieldAddr rfl _ (.tmp 4) 1 rfl (by rw [o4]; go_simp) (hK _ _ (hI.put0 2 rfl rfl hI.st.up))
                      refine JSteps.cons (fun V Ld a W hLi hpre hR hI KK hK => ?_) ?_
                      · have p2 : Ld 2 = true := hpre 2 (List.mem_of_elem_eq_true (by kernel_rfl))
                        have f2 := (hR.ev 2 rfl rfl p2).trans (hI.val 2 _ rfl p2)
                        have c := (hI.st.bl.cell LD.out).trans D1.out
                        exact J_load rfl _ (.tmp 142) rfl (by rw [f2]; go_simp) (hK _ _ (hI.put0 3 rfl rfl hI.st.up))
                      refine JSteps.cons (fun V Ld a W hLi hpre hR hI KK hK => ?_) ?_
                      · have o19 := (hR.old 19 (by kernel_rfl)).trans (show _ = Value.int .i64 ((i : Int)) from rfl)
                        exact G_move rfl (.tmp 19) rfl o19 (hK _ _ (hI.put0 4 rfl rfl hI.st.up))
                      refine JSteps.cons (fun V Ld a W hLi hpre hR hI KK hK => ?_) ?_
                      · have p3 : Ld 3 = true := hpre 3 (List.mem_of_elem_eq_true (by kernel_rfl))
                        have f3 := (hR.ev 3 rfl rfl p3).trans (hI.val 3 _ rfl p3)
                        have p4 : Ld 4 = true := hpre 4 (List.mem_of_elem_eq_true (by kernel_rfl))
                        have f4 := (hR.ev 4 rfl rfl p4).trans (hI.val 4 _ rfl p4)
                        exact J_indexAddr rfl _ (.tmp 143) (.tmp 144) rfl (by rw [f3, f4]; go_simp <;> (intro h; omega)) (hK _ _ (hI.put0 5 rfl rfl hI.st.up))
                      refine JSteps.cons (fun V Ld a W hLi hpre hR hI KK hK => ?_) ?_
                      · have p5 : Ld 5 = true := hpre 5 (List.mem_of_elem_eq_true (by kernel_rfl))
                        have f5 := (hR.ev 5 rfl rfl p5).trans (hI.val 5 _ rfl p5)
                        exact J_fieldAddr rfl _ (.tmp 145) 0 rfl (by rw [f5]; go_simp) (hK _ _ (hI.put0 6 rfl rfl hI.st.up))
                      refine JSteps.cons (fun V Ld a W hLi hpre hR hI KK hK => ?_) ?_
                      · have p6 : Ld 6 = true := hpre 6 (List.mem_of_elem_eq_true (by kernel_rfl))
                        have f6 := (hR.ev 6 rfl rfl p6).trans (hI.val 6 _ rfl p6)
                        have c := (hI.st.bl.cell LK.out).trans K0.out
                        exact J_load rfl _ (.tmp 146) rfl (by rw [f6]; go_simp) (hK _ _ (hI.put0 7 rfl rfl hI.st.up))
                      refine JSteps.cons (fun V Ld a W hLi hpre hR hI KK hK => ?_) trivial
                      · have p1 : Ld 1 = true := hpre 1 (List.mem_of_elem_eq_true (by kernel_rfl))
                        have f1 := (hR.ev 1 rfl rfl p1).trans (hI.val 1 _ rfl p1)
                        have p7 : Ld 7 = true := hpre 7 (List.mem_of_elem_eq_true (by kernel_rfl))
                        have f7 := (hR.ev 7 rfl rfl p7).trans (hI.val 7 _ rfl p7)
                        exact J_binOp rfl .neq _ (.tmp 141) (.tmp 147) _ rfl (by rw [f1, f7]; exact bf_neq _ _ _ _ W NE.out) (hK _ _ (hI.put0 8 rfl rfl hI.st.up))
                    case refine_3 =>
                      intro V Ld w9 hLd hI
                      have e9 : V 8 = .bool false := hI.val 8 _ rfl (hLd 8 (by decide))
                      have hb9 := hI.st.bl
                      clear hI hLd
                      simp only [finL, putL, Act.put, Nat.reduceAdd]
                      rw [e9]
                      clear e9
                      generalize V 0 = v0
                      generalize V 1 = v1
                      generalize V 2 = v2
                      generalize V 3 = v3
                      generalize V 4 = v4
                      generalize V 5 = v5
                      generalize V 6 = v6
                      generalize V 7 = v7
                      clear V
                      simp only [List.setIfInBounds_toArray, List.set_cons_succ, List.set_cons_zero]
                      go_wp2_with fail
                      have RO := HRO
                      have LVX := Lib.hid (Nat.lt_of_lt_of_le LV.out hb9.size)
                      have LKY := Lib.hid (Nat.lt_of_lt_of_le LK.out hb9.size)
                      have LDY := Lib.hid (Nat.lt_of_lt_of_le LD.out hb9.size)
                      have V1b := Lib.hid ((hb9.cell LV.out).trans V1.out)
                      have V2b := Lib.hid ((hb9.cell LV.out).trans V2.out)
                      have K1b := Lib.hid ((hb9.cell LK.out).trans K1.out)
                      have K2b := Lib.hid ((hb9.cell LK.out).trans K2.out)
                      have D1b := Lib.hid ((hb9.cell LD.out).trans D1.out)
                      have HW1 := Lib.hid (below_trans HWX.out hb9)
                      clear V0 V1 V2 K0 K1 K2 D1 LV LK LD HWX hb9
                      have V1 := V1b
                      have V2 := V2b
                      have K1 := K1b
                      have K2 := K2b
                      have D1 := D1b
                      have LV := LVX
                      have LK := LKY
                      have LD := LDY
                      obtain ⟨wy, hwy⟩ : ∃ wy : World, wy = w9 := ⟨_, rfl⟩
                      subst hwy
                      refine wp_region_J2 (GI (R := Bl) [Pr.eq (.pointer (some ⟨vb, 1, none⟩)), Pr.eq (.string ((cAt C m).o)), Pr.eq (.pointer (some ⟨n4, 1, none⟩)), Pr.eq (.slice (some ⟨kb, ko, none⟩) K.length zc), Pr.eq (.int .i64 ((i : Int))), Pr.eq (.pointer (some ⟨kb, ko + i * 5, none⟩)), Pr.eq (.pointer (some ⟨kb, ko + i * 5 + 2, none⟩)), Pr.eq (.string ((kAt K i).o)), Pr.eq (.bool true), Pr.eq (.bool true)] (GrS wy)) (by kernel_rfl) (by kernel_rfl) (by kernel_rfl) ?_ ?_ ?_
                      case refine_1 => exact fun V => GI.start (GrS.start _ _ _)
                      case refine_2 =>
                        refine JSteps.cons (fun V Ld a W hLi hpre hR hI KK hK => ?_) ?_
                        · have o22 := (hR.old 22 (by kernel_rfl)).trans (show _ = Value.pointer (some ⟨vb, 0, none⟩) from rfl)
                          exact J_fieldAddr rfl _ (.tmp 22) 1 rfl (by rw [o22]; go_simp) (hK _ _ (hI.put0 0 rfl rfl hI.st.up))
                        refine JSteps.cons (fun V Ld a W hLi hpre hR hI KK hK => ?_) ?_
                        · have p0 : Ld 0 = true := hpre 0 (List.mem_of_elem_eq_true (by kernel_rfl))
                          have f0 := (hR.ev 0 rfl rfl p0).trans (hI.val 0 _ rfl p0)
                          have c := (hI.st.bl.cell LV.out).trans V1.out
                          exact J_load rfl _ (.tmp 149) rfl (by rw [f0]; go_simp) (hK _ _ (hI.put0 1 rfl rfl hI.st.up))
                        refine JSteps.cons (fun V Ld a W hLi hpre hR hI KK hK => ?_) ?_
                        · have o4 := (hR.old 4 (by kernel_rfl)).trans (show _ = Value.pointer (some ⟨n4, 0, none⟩) from rfl)
                          exact J_fieldAddr rfl _ (.tmp 4) 1 rfl (by rw [o4]; go_simp) (hK _ _ (hI.put0 2 rfl rfl hI.st.up))
                        refine JSteps.cons (fun V Ld a W hLi hpre hR hI KK hK => ?_) ?_
                        · have p2 : Ld 2 = true := hpre 2 (List.mem_of_elem_eq_true (by kernel_rfl))
                          have f2 := (hR.ev 2 rfl rfl p2).trans (hI.val 2 _ rfl p2)
                          have c := (hI.st.bl.cell LD.out).trans D1.out
                          exact J_load rfl _ (.tmp 151) rfl (by rw [f2]; go_simp) (hK _ _ (hI.put0 3 rfl rfl hI.st.up))
                        refine JSteps.cons (fun V Ld a W hLi hpre hR hI KK hK => ?_) ?_
                        · have o19 := (hR.old 19 (by kernel_rfl)).trans (show _ = Value.int .i64 ((i : Int)) from rfl)
                          exact G_move rfl (.tmp 19) rfl o19 (hK _ _ (hI.put0 4 rfl rfl hI.st.up))
                        refine JSteps.cons (fun V Ld a W hLi hpre hR hI KK hK => ?_) ?_
                        · have p3 : Ld 3 = true := hpre 3 (List.mem_of_elem_eq_true (by kernel_rfl))
                          have f3 := (hR.ev 3 rfl rfl p3).trans (hI.val 3 _ rfl p3)
                          have p4 : Ld 4 = true := hpre 4 (List.mem_of_elem_eq_true (by kernel_rfl))
                          have f4 := (hR.ev 4 rfl rfl p4).trans (hI.val 4 _ rfl p4)
                          exact J_indexAddr rfl _ (.tmp 152) (.tmp 153) rfl (by rw [f3, f4]; go_simp <;> (intro h; omega)) (hK _ _ (hI.put0 5 rfl rfl hI.st.up))
                        refine JSteps.cons (fun V Ld a W hLi hpre hR hI KK hK => ?_) ?_
                        · have p5 : Ld 5 = true := hpre 5 (List.mem_of_elem_eq_true (by kernel_rfl))
                          have f5 := (hR.ev 5 rfl rfl p5).trans (hI.val 5 _ rfl p5)
                          exact J_fieldAddr rfl _ (.tmp 154) 2 rfl (by rw [f5]; go_simp) (hK _ _ (hI.put0 6 rfl rfl hI.st.up))
                        refine JSteps.cons (fun V Ld a W hLi hpre hR hI KK hK => ?_) ?_
                        · have p6 : Ld 6 = true := hpre 6 (List.mem_of_elem_eq_true (by kernel_rfl))
                          have f6 := (hR.ev 6 rfl rfl p6).trans (hI.val 6 _ rfl p6)
                          have c := (hI.st.bl.cell LK.out).trans K2.out
                          exact J_load rfl _ (.tmp 155) rfl (by rw [f6]; go_simp) (hK _ _ (hI.put0 7 rfl rfl hI.st.up))
                        refine JSteps.cons (fun V Ld a W hLi hpre hR hI KK hK => ?_) ?_
                        · have p1 : Ld 1 = true := hpre 1 (List.mem_of_elem_eq_true (by kernel_rfl))
                          have f1 := (hR.ev 1 rfl rfl p1).trans (hI.val 1 _ rfl p1)
                          have p7 : Ld 7 = true := hpre 7 (List.mem_of_elem_eq_true (by kernel_rfl))
                          have f7 := (hR.ev 7 rfl rfl p7).trans (hI.val 7 _ rfl p7)
                          exact J_binOp rfl .eql _ (.tmp 150) (.tmp 156) _ rfl (by rw [f1, f7]; exact bt_eqS _ _ _ _ W RO.out) (hK _ _ (hI.put0 8 rfl rfl hI.st.up))
                        refine JSteps.cons (fun V Ld a W hLi hpre hR hI KK hK => ?_) trivial
                        · have p8 : Ld 8 = true := hpre 8 (List.mem_of_elem_eq_true (by kernel_rfl))
                          have f8 := (hR.ev 8 rfl rfl p8).trans (hI.val 8 _ rfl p8)
                          exact G_assign rfl (.tmp 157) rfl f8 (hK _ _ (hI.put0 9 rfl rfl hI.st.up))
                      case refine_3 =>
                        intro V Ld w9 hLd hI
                        have e9 : V 9 = .bool true := hI.val 9 _ rfl (hLd 9 (by decide))
                        have hb9 := hI.st.bl
                        clear hI hLd
                        simp only [finL, putL, Act.put, Nat.reduceAdd]
                        rw [e9]
                        clear e9
                        generalize V 0 = v0
                        generalize V 1 = v1
                        generalize V 2 = v2
                        generalize V 3 = v3
                        generalize V 4 = v4
                        generalize V 5 = v5
                        generalize V 6 = v6
                        generalize V 7 = v7
                        generalize V 8 = v8
                        clear V
                        simp only [List.setIfInBounds_toArray, List.set_cons_succ, List.set_cons_zero]
                        have LVX := Lib.hid (Nat.lt_of_lt_of_le LV.out hb9.size)
                        have LKY := Lib.hid (Nat.lt_of_lt_of_le LK.out hb9.size)
                        have LDY := Lib.hid (Nat.lt_of_lt_of_le LD.out hb9.size)
                        have V2b := Lib.hid ((hb9.cell LV.out).trans V2.out)
                        have K1b := Lib.hid ((hb9.cell LK.out).trans K1.out)
                        have D1b := Lib.hid ((hb9.cell LD.out).trans D1.out)
                        have HW2 := Lib.hid (below_trans HW1.out hb9)
                        clear V1 V2 K1 K2 D1 LV LK LD V1b K2b RO NE HW1 hb9
                        go_wp2_with fail
                        obtain ⟨wz, hwz⟩ : ∃ wz : World, wz = w9 := ⟨_, rfl⟩
                        subst hwz
                        go_loopw [20, 23] (fun b jj wr3 => ∃ j : Nat, j ≤ (cAt C m).away.length ∧ jj = .int .i64 j ∧ b = .bool true ∧ Below wz.heap.size wz wr3) (fun _ jj _ => (cAt C m).away.length - (intOf jj).toNat)
                        case atStart => exact ⟨0, Nat.zero_le _, rfl, rfl, Below.refl _ _⟩
                        case round =>
                          obtain ⟨j, hj, rfl, rfl, hbr3⟩ := hrel
                          have HB3 := Lib.hid hbr3
                          have V2 := Lib.hid ((hbr3.cell LVX.out).trans V2b.out)
                          have K1 := Lib.hid ((hbr3.cell LKY.out).trans K1b.out)
                          have D1 := Lib.hid ((hbr3.cell LDY.out).trans D1b.out)
                          have LV := Lib.hid (Nat.lt_of_lt_of_le LVX.out hbr3.size)
                          have LK := Lib.hid (Nat.lt_of_lt_of_le LKY.out hbr3.size)
                          have LD := Lib.hid (Nat.lt_of_lt_of_le LDY.out hbr3.size)
                          have v2 := V2.out
                          have lv := LV.out
                          by_cases hjl : j < (cAt C m).away.length
                          · have hjli : (j : Int) < ((cAt C m).away.length : Int) := by omega
                            have j0 : (0 : Int) ≤ (j : Int) := by omega
                            have AW := Lib.hid (HAWY.out j hjl)
                            obtain ⟨ab, ao, rfl, hab, -, a0⟩ := (HAE.out.below (below_trans HW2.out hbr3)).str hjl
                            have aw := AW.out
                            have d1 := D1.out
                            have k1 := K1.out
                            have ld := LD.out
                            have lk := LK.out
                            clear hbr3
                            go_wp2_with fail
                            go_quiet (fail)
                            go_wp2_with fail
                            go_roundw
                            case rel => exact ⟨j + 1, by omega, by go_num, rfl, below_drewN HB3.out _⟩
                            case measure => simp [intOf]; omega
                          · obtain rfl : j = (cAt C m).away.length := by omega
                            have hjli : ¬ ((cAt C m).away.length : Int) < ((cAt C m).away.length : Int) := by omega
                            have HB5 := Lib.hid (below_trans HW2.out hbr3)
                            clear hbr3
                            go_wp2_with fail
                            go_roundw
                            case rel => exact ⟨m + 1, by omega, by go_num, by rw [HD1.out], HB5.out⟩
                            case measure => simp [intOf]; omega
                  · have HD1 := Lib.hid (show decide (q < m) = decide (q < m + 1) from by
                      by_cases e : q < m
                      · rw [decide_eq_true e, decide_eq_true (by omega)]
                      · rw [decide_eq_false e, decide_eq_false (by omega)])
                    have NE := Lib.hid (show ((cAt C m).id == (kAt K i).c) = false from by rw [HIF.out m hmC]; simp [hmq])
                    clear hmq
                    generalize decide (q < m) = bq at *
                    go_wp2_with fail
                    refine gen_world fun w0 hw0 => ?_
                    have HW0 := Lib.hid (show Below wr.heap.size wr w0 from by rw [hw0]; exact below_alloc _ _)
                    have hvc : CouC w0 wr.heap.size (cAt C m).id (cAt C m).o (.slice AA (cAt C m).away.length ac) := by rw [hw0]; exact CouC.new _ _ _ _
                    have LV := Lib.hid (show wr.heap.size < w0.heap.size from by rw [hw0]; simp)
                    have V0 := Lib.hid hvc.c0
                    have V1 := Lib.hid hvc.c1
                    have V2 := Lib.hid hvc.c2
                    have HWX := Lib.hid (below_trans HB2.out HW0.out)
                    have K0 := Lib.hid ((HWX.out.cell LKX.out).trans K00.out)
                    have K1 := Lib.hid ((HWX.out.cell LKX.out).trans K01.out)
                    have K2 := Lib.hid ((HWX.out.cell LKX.out).trans K02.out)
                    have D1 := Lib.hid ((HWX.out.cell LDX.out).trans D01.out)
                    have LK := Lib.hid (Nat.lt_of_lt_of_le LKX.out HWX.out.size)
                    have LD := Lib.hid (Nat.lt_of_lt_of_le LDX.out HWX.out.size)
                    clear hw0 hvc x0 x1 xl c0 c1 c2 hcb HW0
                    generalize wr.heap.size = vb at *
                    refine wp_region_J2 (GI (R := Bl) [Pr.eq (.pointer (some ⟨vb, 0, none⟩)), Pr.eq (.int .i64 ((cAt C m).id)), Pr.eq (.pointer (some ⟨n4, 1, none⟩)), Pr.eq (.slice (some ⟨kb, ko, none⟩) K.length zc), Pr.eq (.int .i64 ((i : Int))), Pr.eq (.pointer (some ⟨kb, ko + i * 5, none⟩)), Pr.eq (.pointer (some ⟨kb, ko + i * 5, none⟩)), Pr.eq (.int .i64 ((kAt K i).c)), Pr.eq (.bool true)] (GrS w0)) (by kernel_rfl) (by kernel_rfl) (by kernel_rfl) ?_ ?_ ?_
                    case refine_1 => exact fun V => GI.start (GrS.start _ _ _)
                    case refine_2 =>
                      refine JSteps.cons (fun V Ld a W hLi hpre hR hI KK hK => ?_) ?_
                      · have o22 := (hR.old 22 (by kernel_rfl)).trans (show _ = Value.pointer (some ⟨vb, 0, none⟩) from rfl)
                        exact J_fieldAddr rfl _ (.tmp 22) 0 rfl (by rw [o22]; go_simp) (hK _ _ (hI.put0 0 rfl rfl hI.st.up))
                      refine JSteps.cons (fun V Ld a W hLi hpre hR hI KK hK => ?_) ?_
                      · have p0 : Ld 0 = true := hpre 0 (List.mem_of_elem_eq_true (by kernel_rfl))
                        have f0 := (hR.ev 0 rfl rfl p0).trans (hI.val 0 _ rfl p0)
                        have c := (hI.st.bl.cell LV.out).trans V0.out
                        exact J_load rfl _ (.tmp 140) rfl (by rw [f0]; go_simp) (hK _ _ (hI.put0 1 rfl rfl hI.st.up))
                      refine JSteps.cons (fun V Ld a W hLi hpre hR hI KK hK => ?_) ?_
                      · have o4 := (hR.old 4 (by kernel_rfl)).trans (show _ = Value.pointer (some ⟨n4, 0, none⟩) from rfl)
                        exact J_fieldAddr rfl _ (.tmp 4) 1 rfl (by rw [o4]; go_simp) (hK _ _ (hI.put0 2 rfl rfl hI.st.up))
                      refine JSteps.cons (fun V Ld a W hLi hpre hR hI KK hK => ?_) ?_
                      · have p2 : Ld 2 = true := hpre 2 (List.mem_of_elem_eq_true (by kernel_rfl))
                        have f2 := (hR.ev 2 rfl rfl p2).trans (hI.val 2 _ rfl p2)
                        have c := (hI.st.bl.cell LD.out).trans D1.out
                        exact J_load rfl _ (.tmp 142) rfl (by rw [f2]; go_simp) (hK _ _ (hI.put0 3 rfl rfl hI.st.up))
                      refine JSteps.cons (fun V Ld a W hLi hpre hR hI KK hK => ?_) ?_
                      · have o19 := (hR.old 19 (by kernel_rfl)).trans (show _ = Value.int .i64 ((i : Int)) from rfl)
                        exact G_move rfl (.tmp 19) rfl o19 (hK _ _ (hI.put0 4 rfl rfl hI.st.up))
                      refine JSteps.cons (fun V Ld a W hLi hpre hR hI KK hK => ?_) ?_
                      · have p3 : Ld 3 = true := hpre 3 (List.mem_of_elem_eq_true (by kernel_rfl))
                        have f3 := (hR.ev 3 rfl rfl p3).trans (hI.val 3 _ rfl p3)
                        have p4 : Ld 4 = true := hpre 4 (List.mem_of_elem_eq_true (by kernel_rfl))
                        have f4 := (hR.ev 4 rfl rfl p4).trans (hI.val 4 _ rfl p4)
                        exact J_indexAddr rfl _ (.tmp 143) (.tmp 144) rfl (by rw [f3, f4]; go_simp <;> (intro h; omega)) (hK _ _ (hI.put0 5 rfl rfl hI.st.up))
                      refine JSteps.cons (fun V Ld a W hLi hpre hR hI KK hK => ?_) ?_
                      · have p5 : Ld 5 = true := hpre 5 (List.mem_of_elem_eq_true (by kernel_rfl))
                        have f5 := (hR.ev 5 rfl rfl p5).trans (hI.val 5 _ rfl p5)
                        exact J_fieldAddr rfl _ (.tmp 145) 0 rfl (by rw [f5]; go_simp) (hK _ _ (hI.put0 6 rfl rfl hI.st.up))
                      refine JSteps.cons (fun V Ld a W hLi hpre hR hI KK hK => ?_) ?_
                      · have p6 : Ld 6 = true := hpre 6 (List.mem_of_elem_eq_true (by kernel_rfl))
                        have f6 := (hR.ev 6 rfl rfl p6).trans (hI.val 6 _ rfl p6)
                        have c := (hI.st.bl.cell LK.out).trans K0.out
                        exact J_load rfl _ (.tmp 146) rfl (by rw [f6]; go_simp) (hK _ _ (hI.put0 7 rfl rfl hI.st.up))
                      refine JSteps.cons (fun V Ld a W hLi hpre hR hI KK hK => ?_) trivial
                      · have p1 : Ld 1 = true := hpre 1 (List.mem_of_elem_eq_true (by kernel_rfl))
                        have f1 := (hR.ev 1 rfl rfl p1).trans (hI.val 1 _ rfl p1)
                        have p7 : Ld 7 = true := hpre 7 (List.mem_of_elem_eq_true (by kernel_rfl))
                        have f7 := (hR.ev 7 rfl rfl p7).trans (hI.val 7 _ rfl p7)
                        exact J_binOp rfl .neq _ (.tmp 141) (.tmp 147) _ rfl (by rw [f1, f7]; exact bt_neq _ _ _ _ W NE.out) (hK _ _ (hI.put0 8 rfl rfl hI.st.up))
                    case refine_3 =>
                      intro V Ld w9 hLd hI
                      have e9 : V 8 = .bool true := hI.val 8 _ rfl (hLd 8 (by decide))
                      have hb9 := hI.st.bl
                      clear hI hLd
                      simp only [finL, putL, Act.put, Nat.reduceAdd]
                      rw [e9]
                      clear e9
                      generalize V 0 = v0
                      generalize V 1 = v1
                      generalize V 2 = v2
                      generalize V 3 = v3
                      generalize V 4 = v4
                      generalize V 5 = v5
                      generalize V 6 = v6
                      generalize V 7 = v7
                      clear V
                      simp only [List.setIfInBounds_toArray, List.set_cons_succ, List.set_cons_zero]
                      have HB6 := Lib.hid (below_trans HWX.out hb9)
                      clear hb9
                      go_wp2_with fail
                      go_roundw
                      case rel => exact ⟨m + 1, by omega, by go_num, by rw [HD1.out], HB6.out⟩
                      case measure => simp [intOf]; omega
                · obtain rfl : m = C.length := by omega
                  have hmCi : ¬ (C.length : Int) < (C.length : Int) := by omega
                  rw [decide_eq_true hqC]
                  clear hbr2
                  go_wp2_with fail
                  go_roundw
                  case rel => exact ⟨i + 1, by omega, by go_num, HB2.out⟩
                  case measure => simp [intOf]; omega
            · obtain rfl : i = K.length := by omega
              have hili : ¬ (K.length : Int) < (K.length : Int) := by omega
              go_wp2_with fail
              go_roundw
              case rel => exact ⟨tm + dt, k - 1, _, _, _, ⟨C, K⟩, by go_num, by go_num, by omega, by omega, by show K.length + (k - 1) ≤ 13; have h0 : K.length + k ≤ 14 := hkl; omega, HV.out, HA.out, HT.out, HS.out.below HBR.out⟩
              case measure => simp [intOf]; omega
      · have g1 : ¬ (0 : Int) < (k : Int) := by omega
        go_wp2_with fail
        refine ret_below (awake32_any _) fun w10 hb => ?_
        have HB := Lib.hid (HS.out.below hb).b
        clear hb
        go_wp2_with fail
        go_ret
        exact RetB.bool rfl HB.out
  · rw [decide_eq_false hlight] at hL
    have HLt := Lib.hid hL
    clear hL hlight
    go_enter Try.func3, Try.ntmps3
    go_wp2_with fail
    refine ret_pure HLt.out ?_
    clear HLt
    go_wp2_with fail
    refine ret_below (awake32_any _) fun w2 hb => ?_
    have HB2 := Lib.hid hb
    clear hb
    go_wp2_with fail
    go_ret
    exact RetB.bool rfl HB2.out
end Go.Proofs.Ytjckpammcgeloaa
namespace Go.Proofs.Ytjckpammcgeloaa
open Go.RowKit

theorem cell_block_lt {w : World} {a : Addr} {v : Value} (h : w.cell? a = some v) : a.block < w.heap.size := by
  rcases Nat.lt_or_ge a.block w.heap.size with hlt | hge
  · exact hlt
  · unfold World.cell? at h; simp [Array.getElem?_eq_none hge] at h
theorem open_row {W : World} {x : Addr} {len cap : Nat} {zs : List Int} (hl : len ≤ cap) (hm : cap ≤ maxLen) (hz : zs.length = cap) (hcell : ∀ i, i < zs.length → W.cell? (x.add i) = some (.int .i64 (zs.getD i 0)))
    (hb : ∀ n ∈ zs, -9223372036854775808 ≤ n ∧ n ≤ 9223372036854775807) :
    ∃ ys : List Int, ys.length = len ∧ ys.length ≤ maxLen ∧ IntsAt W (some x) ys ∧ ∀ n ∈ ys, -9223372036854775808 ≤ n ∧ n ≤ 9223372036854775807 := by
  refine ⟨zs.take len, by simp; omega, by simp; omega, fun k hk => ?_, fun n hn => hb n (List.mem_of_mem_take hn)⟩
  have hk' : k < len := by simpa using Nat.lt_of_lt_of_le hk (List.length_take_le _ _)
  have h0 := hcell 0 (by omega)
  have hk0 := hcell k (by omega)
  obtain ⟨b, off, spot⟩ := x
  have hs : spot = none := by simpa [Addr.add] using World.cell?_spot h0
  subst hs
  have hlt := cell_block_lt hk0
  refine ⟨b, off, rfl, ?_, ?_⟩
  · unfold Addr.add at hlt; split at hlt <;> exact hlt
  · have e : (⟨b, off, none⟩ : Addr).add k = ⟨b, off + k, none⟩ := by
      unfold Addr.add; split
      · rename_i h; subst h; rfl
      · rfl
    rw [← e, hk0, nth_eq hk]
    simp [List.getD_eq_getElem?_getD, show k < zs.length by omega]
end Go.Proofs.Ytjckpammcgeloaa
