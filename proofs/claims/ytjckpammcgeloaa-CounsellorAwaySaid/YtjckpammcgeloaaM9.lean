/-
  Desks: the document gives a case.
  Desks: the document has a case seen.
  Desks: what Leave does in place.
  Desks: somebody leaves.
  Desks: the document's Leave, its drawn regions.
  Conditions: those that each theorem names.
-/
import Derived.Test.YtjckpammcgeloaaM8
import Derived.Outline
import Derived.Maps.AppendAt
set_option linter.unusedVariables false
set_option linter.unusedSimpArgs false
namespace Go.Proofs.Ytjckpammcgeloaa
open Go.RowKit

theorem lastT_at {K : List CaseD} {m : Nat} (h : K.length = m + 1) : lastT K = (kAt K m).t := by
  unfold lastT; rw [if_neg (by omega), h, Nat.add_sub_cancel]
theorem in_ok {t a : Int} {b : Bool} (h1 : b = true) (h2 : ¬ t < a) : ¬ (b = false ∨ t < a) := by rw [h1]; rintro (h | h); cases h; exact h2 h
theorem lastT_nil {K : List CaseD} (h : K.length = 0) : lastT K = 0 := by unfold lastT; rw [if_pos h]
set_option maxRecDepth 100000 in
set_option maxHeartbeats 8000000 in
theorem refGive_any {P : Nat → Prop} (v : Value) (r o : ByteArray) (t : Int) (D : DeskD) (w : World) (hD : DeskR P w v D) (sD : DeskS D) :
    Calls Try.prog 42 #[v, .string r, .string o, .int .i64 t] w (GiveP D r o t w) := by
  have HD := Lib.hid hD
  have HS := Lib.hid sD
  obtain ⟨A0, ca0, B0, cb0, rfl, h1, h2⟩ := hD
  clear h1 h2 sD
  go_enter Try.func42, Try.ntmps42
  go_wp2_with fail
  refine gen_calls fun w1 hw1 => ?_
  have HB1 := Lib.hid (show Below w.heap.size w w1 from by rw [hw1]; exact bl_alloc _ (below_alloc _ _))
  have D1 := Lib.hid (show DeskCell w1 w.heap.size (.slice A0 D.cs.length ca0) (.slice B0 D.ks.length cb0) from by rw [hw1]; exact (DeskCell.new _ _ rfl).below (below_alloc _ _))
  have Z1 := Lib.hid (show DeskCell w1 (w.heap.size + 1) (.slice none 0 0) (.slice none 0 0) from by rw [hw1]; exact DeskCell.new _ _ (by simp))
  clear hw1
  generalize hbx : w.heap.size = bx at *
  have HBX := Lib.hid hbx
  refine (refCopy_any _ D w1 (HD.out.below (show Below w.heap.size w w1 from by rw [hbx]; exact HB1.out)) HS.out).mono ?_
  rintro e w2 ⟨u, x, rfl, hO, hb2⟩
  clear hbx
  obtain ⟨A, ca, B, cb, rfl, rfl⟩ := hO.forms
  have HO := Lib.hid hO
  have d2 := D1.out.below hb2
  have HD2 := Lib.hid d2
  have HZ2 := Lib.hid (Z1.out.below hb2)
  have HB2 := Lib.hid (HB1.out.trans (hb2.mono (by have := D1.out.lt; omega)))
  have c0 := d2.c0
  have c1 := d2.c1
  have f0 := d2.fz 0
  have f1 := d2.fz 1
  have l0 := d2.lt
  have z1 := Z1.out.lt
  clear hO d2 hb2
  go_wp2_with fail
  refine gen_calls fun w3 hw3 => ?_
  have HG := Lib.hid (show GvS w w3 bx (.slice A D.cs.length ca) (.slice B D.ks.length cb) D from by
    rw [hw3]
    exact ⟨below_set (below_set HB2.out ⟨bx, 0, none⟩ _ (Nat.le_refl _)) ⟨bx, 1, none⟩ _ (Nat.le_refl _), (HD2.out.set0 _).set1 _, (HZ2.out.other ⟨bx, 0, none⟩ _ (by show bx + 1 ≠ bx; omega)).other ⟨bx, 1, none⟩ _ (by show bx + 1 ≠ bx; omega), ((HO.out.set ⟨bx, 0, none⟩ _ (by show bx < _; omega)).set ⟨bx, 1, none⟩ _ (by show bx < _; omega)).lower (by omega)⟩)
  clear hw3 c0 c1 f0 f1 l0 z1
  refine ret_below (refCheck_any _ D w3 HG.out.o.read HS.out) fun w4 hb4 => ?_
  replace HG := Lib.hid (HG.out.below hb4)
  clear hb4
  have c0 := HG.out.d.c0
  have c1 := HG.out.d.c1
  have z0 := HG.out.z.c0
  have z1 := HG.out.z.c1
  have g0 := HG.out.z.fz 0
  have g1 := HG.out.z.fz 1
  have l0 := HG.out.d.lt
  have l1 := HG.out.z.lt
  by_cases hc : chkB D = true
  · have hv : chkE D = 0 := by unfold chkE; rw [if_pos hc]
    have HCB := Lib.hid hc
    rw [hv]
    have HV := Lib.hid hv
    clear hc hv
    by_cases hlr : (256 : Int) < (r.size : Int)
    · have HE := Lib.hid (show giveE D r o t = 4 from by unfold giveE; rw [if_neg (by rw [HV.out]; decide), if_pos (by unfold lngB; exact decide_eq_true (by omega))])
      go_wp2_with fail
      refine bodyPost_ret (results_desk3 rfl _ _ (bx + 1) rfl HG.out.cell) rfl ?_
      exact HG.out.bad HBX.out.symm HE.out (by decide)
    · have HE4 := Lib.hid (show lngB r = false from by unfold lngB; exact decide_eq_false (by omega))
      have hlr2 : decide ((256 : Int) < (r.size : Int)) = false := decide_eq_false hlr
      by_cases t0 : t < 0
      · have HE := Lib.hid (show giveE D r o t = 16 from by unfold giveE; rw [if_neg (by rw [HV.out]; decide), if_neg (by rw [HE4.out]; decide), if_pos (.inl (by unfold inI; exact decide_eq_false (by omega)))])
        go_wp2_with fail
        refine bodyPost_ret (results_desk3 rfl _ _ (bx + 1) rfl HG.out.cell) rfl ?_
        exact HG.out.bad HBX.out.symm HE.out (by decide)
      · have t0' : decide (t < 0) = false := decide_eq_false t0
        by_cases t1 : (1099511627776 : Int) < t
        · have HE := Lib.hid (show giveE D r o t = 16 from by unfold giveE; rw [if_neg (by rw [HV.out]; decide), if_neg (by rw [HE4.out]; decide), if_pos (.inl (by unfold inI; exact decide_eq_false (by omega)))])
          have t1' : decide ((1099511627776 : Int) < t) = true := decide_eq_true t1
          go_wp2_with fail
          refine bodyPost_ret (results_desk3 rfl _ _ (bx + 1) rfl HG.out.cell) rfl ?_
          exact HG.out.bad HBX.out.symm HE.out (by decide)
        · have t1' : decide ((1099511627776 : Int) < t) = false := decide_eq_false t1
          have HIN := Lib.hid (show inI t 0 1099511627776 = true from by unfold inI; exact decide_eq_true ⟨by omega, by omega⟩)
          have HT0 := Lib.hid (show 0 ≤ t by omega)
          rcases Nat.eq_zero_or_pos D.ks.length with hk | hk
          · have HLT := Lib.hid (show ¬ t < lastT D.ks from by rw [lastT_nil hk]; have := HT0.out; omega)
            have k0 : ¬ (0 : Int) < (D.ks.length : Int) := by omega
            have k1 : decide (0 < D.ks.length) = false := decide_eq_false (by omega)
            clear hk
            go_wp2_with fail
            clear k0 k1
            have HE3 := Lib.hid (show ¬ (inI t 0 1099511627776 = false ∨ t < lastT D.ks) from in_ok HIN.out (by have := HLT.out; omega))
            refine ret_below (refChoose_any _ r o D w4 HG.out.o.read HS.out) fun w6 hb6 => ?_
            replace HG := Lib.hid (HG.out.below hb6)
            clear hb6 c0 c1 z0 z1 g0 g1 l0 l1
            have c0 := HG.out.d.c0
            have c1 := HG.out.d.c1
            have z0 := HG.out.z.c0
            have z1 := HG.out.z.c1
            have g0 := HG.out.z.fz 0
            have g1 := HG.out.z.fz 1
            have l0 := HG.out.d.lt
            have l1 := HG.out.z.lt
            rcases ch_same HCB.out r o with ⟨hch, hre⟩ | ⟨k, hre, hkl, hid, hch, -⟩
            · have HE := Lib.hid (show giveE D r o t = 50 from by unfold giveE; rw [if_neg (by rw [HV.out]; decide), if_neg (by rw [HE4.out]; decide), if_neg HE3.out, if_pos hch])
              rw [hre]
              clear hch hre
              go_wp2_with fail
              refine bodyPost_ret (results_desk3 rfl _ _ (bx + 1) rfl HG.out.cell) rfl ?_
              exact HG.out.bad HBX.out.symm HE.out (by decide)
            · have HCH := Lib.hid (show chD D r o = chD D r o from rfl)
              have HCZ := Lib.hid hch
              have HKL := Lib.hid hkl
              have HID := Lib.hid hid
              rw [hre]
              have m0 : ¬ (k : Int) < 0 := by omega
              clear hch hre hkl hid
              by_cases hk : D.ks.length = 256
              · have HE := Lib.hid (show giveE D r o t = 3 from by unfold giveE; rw [if_neg (by rw [HV.out]; decide), if_neg (by rw [HE4.out]; decide), if_neg HE3.out, if_neg HCZ.out, if_pos (by omega)])
                have kz : ((D.ks.length : Int) == 256) = true := by rw [hk]; rfl
                clear hk
                go_wp2_with fail
                refine bodyPost_ret (results_desk3 rfl _ _ (bx + 1) rfl HG.out.cell) rfl ?_
                exact HG.out.bad HBX.out.symm HE.out (by decide)
              · have HE := Lib.hid (show giveE D r o t = 0 from by unfold giveE; rw [if_neg (by rw [HV.out]; decide), if_neg (by rw [HE4.out]; decide), if_neg HE3.out, if_neg HCZ.out, if_neg (by have := (chk_y.1 HCB.out).lk; omega)])
                have kz : ((D.ks.length : Int) == 256) = false := beq_eq_false_iff_ne.2 (by omega)
                have HOK := Lib.hid HG.out.o.ks
                have HLK := Lib.hid HS.out.lk
                have f0 := HG.out.d.fz 0
                have f1 := HG.out.d.fz 1
                obtain ⟨A', ca', B', cb', e, hcp, -⟩ := HG.out.o.read
                injection e with e; injection e with e; injection e with e1 e; injection e with e2 e
                injection e1 with e3 e4 e5
                subst e3 e5
                obtain ⟨ab, ao, xx, rfl, hab, -, x0, x1, x2, hx⟩ := hcp.elem HKL.out
                rw [hx.id, HID.out] at x0
                have m1 : (0 : Int) ≤ (k : Int) := by omega
                have m2 : (k : Int) < (D.cs.length : Int) := by have := HKL.out; omega
                clear hk e e2 e4 hcp x1 x2 hx
                generalize hce : chD D r o = ch at *
                have HCE := Lib.hid hce
                clear hce
                go_wp2_with (first | (at_builtin; refine app_elL EK Try.underlying28 info_case rfl rfl (.tmp 71) (.tmp 77) rfl (base := bx + 1 + 1) (w := w6) (v := .slice B D.ks.length cb) (S := D.ks) (⟨ch, r, o, t, false⟩ : CaseD) rfl rfl HOK.out (w6.heap.size) rfl rfl (by have := HLK.out; omega) (by omega) (by omega) ?_; intro g cap w7 ho7 hg7 hor7; have HO7 := Lib.hid ho7; have HG7 := Lib.hid hg7; have HR7 := Lib.hid hor7; have e7 : ∀ b, b < bx + 1 + 1 → w7.heap[b]? = w6.heap[b]? := (fun b hb => hg7.block b (by omega) (fun e => by have := (World.ownsRow.lt HOK.out b e.symm).1; omega)); have D7 := Lib.hid (HG.out.d.keep (e7 bx (by omega))); have Z7 := Lib.hid (HG.out.z.keep (e7 (bx + 1) (by omega))); have y0 := D7.out.c0; have y1 := D7.out.c1; have yf := D7.out.fz 1; have yl := D7.out.lt; have y2 := Z7.out.c0; have y3 := Z7.out.c1; have yg := Z7.out.fz 0; have yh := Z7.out.fz 1; have yk := Z7.out.lt; clear ho7 hg7 hor7 e7))
                refine bodyPost_ret (results_desk3 rfl _ _ (bx + 1) rfl (((Z7.out.other ⟨bx, 1, none⟩ _ (by show bx + 1 ≠ bx; omega)).set0 _).set1 _)) rfl ?_
                have hb6 : Below bx w w6 := HG.out.b
                have hb7 : Below bx w w7 := hb6.trans ((Below.refl bx w6).grown HG7.out (by omega) (fun j hj => by have := (World.ownsRow.lt HOK.out j hj).1; omega))
                refine ⟨.slice (some ⟨ab, ao, none⟩) D.cs.length ca, .slice (some ⟨g, 0, none⟩) (D.ks.length + 1) cap, ?_, ?_, ?_⟩
                · show Ending.returned (.tuple #[.agg #[_, _], .int .i64 ch, .int .i64 0]) = _
                  unfold giveI
                  rw [HE.out, if_pos rfl, HCE.out]
                · unfold giveD
                  rw [HE.out, if_pos rfl, HCE.out, HBX.out]
                  exact (((((HG.out.o.push HO7.out HG7.out HR7.out).set ⟨bx, 1, none⟩ _ (by show bx < _; omega)).set ⟨bx + 1, 0, none⟩ _ (by show bx + 1 < _; omega)).set ⟨bx + 1, 1, none⟩ _ (by show bx + 1 < _; omega))).lower (by omega)
                · rw [HBX.out]
                  exact below_set (below_set (below_set hb7 ⟨bx, 1, none⟩ _ (Nat.le_refl _)) ⟨bx + 1, 0, none⟩ _ (by show bx ≤ bx + 1; omega)) ⟨bx + 1, 1, none⟩ _ (by show bx ≤ bx + 1; omega)
          · obtain ⟨m, hm⟩ : ∃ m, D.ks.length = m + 1 := ⟨D.ks.length - 1, by omega⟩
            have k0 : (0 : Int) < (D.ks.length : Int) := by omega
            have k1 : decide (0 < D.ks.length) = true := decide_eq_true (by omega)
            have k2 : (D.ks.length : Int) - 1 = (m : Int) := by omega
            have k5 : (D.ks.length : Int) ≤ 1000 := by have := HS.out.lk; omega
            have k3 : (0 : Int) ≤ (m : Int) := by omega
            have k4 : (m : Int) < (D.ks.length : Int) := by omega
            have HLM := Lib.hid (lastT_at hm)
            obtain ⟨A', ca', B', cb', e, -, hkp⟩ := HG.out.o.read
            injection e with e; injection e with e; injection e with e1 e; injection e with e2 e
            injection e2 with e3 e4 e5
            subst e3 e5
            obtain ⟨kb, ko, rfl, hkb, -, x0, x1, x2, x3, x4⟩ := hkp.case (show m < D.ks.length by omega)
            have HML := Lib.hid (show (kAt D.ks m).t = lastT D.ks from HLM.out.symm)
            rw [HML.out] at x3
            clear hk hm e e1 e4 hkp x0 x1 x2 x4
            by_cases hlt : t < lastT D.ks
            · have HE := Lib.hid (show giveE D r o t = 16 from by unfold giveE; rw [if_neg (by rw [HV.out]; decide), if_neg (by rw [HE4.out]; decide), if_pos (.inr hlt)])
              have hlt' : decide (t < lastT D.ks) = true := decide_eq_true hlt
              generalize lastT D.ks = lt at *
              go_wp2_with fail
              refine bodyPost_ret (results_desk3 rfl _ _ (bx + 1) rfl HG.out.cell) rfl ?_
              exact HG.out.bad HBX.out.symm HE.out (by decide)
            · have HLT := Lib.hid hlt
              have hlt' : decide (t < lastT D.ks) = false := decide_eq_false hlt
              generalize hle : lastT D.ks = lt at *
              have HLE := Lib.hid hle
              replace HLT := Lib.hid (show ¬ t < lastT D.ks from by rw [HLE.out]; exact HLT.out)
              clear hle
              go_wp2_with fail
              clear hlt hlt' k0 k1 k2 k3 k4 k5 x3
              have HE3 := Lib.hid (show ¬ (inI t 0 1099511627776 = false ∨ t < lastT D.ks) from in_ok HIN.out (by have := HLT.out; omega))
              refine ret_below (refChoose_any _ r o D w4 HG.out.o.read HS.out) fun w6 hb6 => ?_
              replace HG := Lib.hid (HG.out.below hb6)
              clear hb6 c0 c1 z0 z1 g0 g1 l0 l1
              have c0 := HG.out.d.c0
              have c1 := HG.out.d.c1
              have z0 := HG.out.z.c0
              have z1 := HG.out.z.c1
              have g0 := HG.out.z.fz 0
              have g1 := HG.out.z.fz 1
              have l0 := HG.out.d.lt
              have l1 := HG.out.z.lt
              rcases ch_same HCB.out r o with ⟨hch, hre⟩ | ⟨k, hre, hkl, hid, hch, -⟩
              · have HE := Lib.hid (show giveE D r o t = 50 from by unfold giveE; rw [if_neg (by rw [HV.out]; decide), if_neg (by rw [HE4.out]; decide), if_neg HE3.out, if_pos hch])
                rw [hre]
                clear hch hre
                go_wp2_with fail
                refine bodyPost_ret (results_desk3 rfl _ _ (bx + 1) rfl HG.out.cell) rfl ?_
                exact HG.out.bad HBX.out.symm HE.out (by decide)
              · have HCH := Lib.hid (show chD D r o = chD D r o from rfl)
                have HCZ := Lib.hid hch
                have HKL := Lib.hid hkl
                have HID := Lib.hid hid
                rw [hre]
                have m0 : ¬ (k : Int) < 0 := by omega
                clear hch hre hkl hid
                by_cases hk : D.ks.length = 256
                · have HE := Lib.hid (show giveE D r o t = 3 from by unfold giveE; rw [if_neg (by rw [HV.out]; decide), if_neg (by rw [HE4.out]; decide), if_neg HE3.out, if_neg HCZ.out, if_pos (by omega)])
                  have kz : ((D.ks.length : Int) == 256) = true := by rw [hk]; rfl
                  clear hk
                  go_wp2_with fail
                  refine bodyPost_ret (results_desk3 rfl _ _ (bx + 1) rfl HG.out.cell) rfl ?_
                  exact HG.out.bad HBX.out.symm HE.out (by decide)
                · have HE := Lib.hid (show giveE D r o t = 0 from by unfold giveE; rw [if_neg (by rw [HV.out]; decide), if_neg (by rw [HE4.out]; decide), if_neg HE3.out, if_neg HCZ.out, if_neg (by have := (chk_y.1 HCB.out).lk; omega)])
                  have kz : ((D.ks.length : Int) == 256) = false := beq_eq_false_iff_ne.2 (by omega)
                  have HOK := Lib.hid HG.out.o.ks
                  have HLK := Lib.hid HS.out.lk
                  have f0 := HG.out.d.fz 0
                  have f1 := HG.out.d.fz 1
                  obtain ⟨A', ca', B', cb', e, hcp, -⟩ := HG.out.o.read
                  injection e with e; injection e with e; injection e with e1 e; injection e with e2 e
                  injection e1 with e3 e4 e5
                  subst e3 e5
                  obtain ⟨ab, ao, xx, rfl, hab, -, x0, x1, x2, hx⟩ := hcp.elem HKL.out
                  rw [hx.id, HID.out] at x0
                  have m1 : (0 : Int) ≤ (k : Int) := by omega
                  have m2 : (k : Int) < (D.cs.length : Int) := by have := HKL.out; omega
                  clear hk e e2 e4 hcp x1 x2 hx
                  generalize hce : chD D r o = ch at *
                  have HCE := Lib.hid hce
                  clear hce
                  go_wp2_with (first | (at_builtin; refine app_elL EK Try.underlying28 info_case rfl rfl (.tmp 71) (.tmp 77) rfl (base := bx + 1 + 1) (w := w6) (v := .slice (some ⟨kb, ko, none⟩) D.ks.length cb) (S := D.ks) (⟨ch, r, o, t, false⟩ : CaseD) rfl rfl HOK.out (w6.heap.size) rfl rfl (by have := HLK.out; omega) (by omega) (by omega) ?_; intro g cap w7 ho7 hg7 hor7; have HO7 := Lib.hid ho7; have HG7 := Lib.hid hg7; have HR7 := Lib.hid hor7; have e7 : ∀ b, b < bx + 1 + 1 → w7.heap[b]? = w6.heap[b]? := (fun b hb => hg7.block b (by omega) (fun e => by have := (World.ownsRow.lt HOK.out b e.symm).1; omega)); have D7 := Lib.hid (HG.out.d.keep (e7 bx (by omega))); have Z7 := Lib.hid (HG.out.z.keep (e7 (bx + 1) (by omega))); have y0 := D7.out.c0; have y1 := D7.out.c1; have yf := D7.out.fz 1; have yl := D7.out.lt; have y2 := Z7.out.c0; have y3 := Z7.out.c1; have yg := Z7.out.fz 0; have yh := Z7.out.fz 1; have yk := Z7.out.lt; clear ho7 hg7 hor7 e7))
                  refine bodyPost_ret (results_desk3 rfl _ _ (bx + 1) rfl (((Z7.out.other ⟨bx, 1, none⟩ _ (by show bx + 1 ≠ bx; omega)).set0 _).set1 _)) rfl ?_
                  have hb6 : Below bx w w6 := HG.out.b
                  have hb7 : Below bx w w7 := hb6.trans ((Below.refl bx w6).grown HG7.out (by omega) (fun j hj => by have := (World.ownsRow.lt HOK.out j hj).1; omega))
                  refine ⟨.slice (some ⟨ab, ao, none⟩) D.cs.length ca, .slice (some ⟨g, 0, none⟩) (D.ks.length + 1) cap, ?_, ?_, ?_⟩
                  · show Ending.returned (.tuple #[.agg #[_, _], .int .i64 ch, .int .i64 0]) = _
                    unfold giveI
                    rw [HE.out, if_pos rfl, HCE.out]
                  · unfold giveD
                    rw [HE.out, if_pos rfl, HCE.out, HBX.out]
                    exact (((((HG.out.o.push HO7.out HG7.out HR7.out).set ⟨bx, 1, none⟩ _ (by show bx < _; omega)).set ⟨bx + 1, 0, none⟩ _ (by show bx + 1 < _; omega)).set ⟨bx + 1, 1, none⟩ _ (by show bx + 1 < _; omega))).lower (by omega)
                  · rw [HBX.out]
                    exact below_set (below_set (below_set hb7 ⟨bx, 1, none⟩ _ (Nat.le_refl _)) ⟨bx + 1, 0, none⟩ _ (by show bx ≤ bx + 1; omega)) ⟨bx + 1, 1, none⟩ _ (by show bx ≤ bx + 1; omega)
  · have hv : chkE D = 1 := by unfold chkE; rw [if_neg hc]
    rw [hv]
    have HE := Lib.hid (show giveE D r o t = 1 from by unfold giveE; rw [hv]; rfl)
    clear hc hv
    go_wp2_with fail
    refine bodyPost_ret (results_desk3 rfl _ _ (bx + 1) rfl HG.out.cell) rfl ?_
    exact HG.out.bad HBX.out.symm HE.out (by decide)
end Go.Proofs.Ytjckpammcgeloaa
namespace Go.Proofs.Ytjckpammcgeloaa
open Go.RowKit

structure RkS (w wk : World) (bx : Nat) (u x : Value) (D : DeskD) : Prop where
  b : Below bx w wk
  d : DeskCell wk bx u x
  z : DeskCell wk (bx + 1) (.slice none 0 0) (.slice none 0 0)
  c : CaseC wk (bx + 1 + 1) zeroK
  o : DeskO wk (bx + 1 + 1 + 1) u x D
section
variable {w wk w' : World} {bx : Nat} {u x : Value} {id : Int} {D : DeskD}
theorem RkS.below (h : RkS w wk bx u x D) (hb : Below wk.heap.size wk w') : RkS w w' bx u x D := by
  have := h.d.lt
  exact ⟨h.b.trans (hb.mono (by omega)), h.d.below hb, h.z.below hb, h.c.below hb, h.o.below hb⟩
end
def resW (wk : World) (bx : Nat) (u v : Value) (d : CaseD) : World :=
  (((((((wk.setCell ⟨bx + 1, 0, none⟩ u).setCell ⟨bx + 1, 1, none⟩ v).setCell ⟨bx + 1 + 1, 0, none⟩ (.int .i64 d.c)).setCell ⟨bx + 1 + 1, 1, none⟩ (.string d.r)).setCell ⟨bx + 1 + 1, 2, none⟩ (.string d.o)).setCell ⟨bx + 1 + 1, 3, none⟩ (.int .i64 d.t)).setCell ⟨bx + 1 + 1, 4, none⟩ (.bool d.s))
theorem resW_desk {wk : World} {bx : Nat} {a b u v : Value} {d : CaseD} (h : DeskCell wk (bx + 1) a b) : DeskCell (resW wk bx u v d) (bx + 1) u v :=
  (((((((h.set0 _).set1 _).other ⟨bx + 1 + 1, 0, none⟩ _ (by show bx + 1 ≠ bx + 1 + 1; omega)).other ⟨bx + 1 + 1, 1, none⟩ _ (by show bx + 1 ≠ bx + 1 + 1; omega)).other ⟨bx + 1 + 1, 2, none⟩ _ (by show bx + 1 ≠ bx + 1 + 1; omega)).other ⟨bx + 1 + 1, 3, none⟩ _ (by show bx + 1 ≠ bx + 1 + 1; omega)).other ⟨bx + 1 + 1, 4, none⟩ _ (by show bx + 1 ≠ bx + 1 + 1; omega))
theorem resW_case {wk : World} {bx : Nat} {e d : CaseD} {u v : Value} (h : CaseC wk (bx + 1 + 1) e) : CaseC (resW wk bx u v d) (bx + 1 + 1) d :=
  ((h.other ⟨bx + 1, 0, none⟩ _ (by show bx + 1 + 1 ≠ bx + 1; omega)).other ⟨bx + 1, 1, none⟩ _ (by show bx + 1 + 1 ≠ bx + 1; omega)).set5 d.c d.r d.o d.t d.s
theorem resW_below {w wk : World} {bx : Nat} {u v : Value} {d : CaseD} (h : Below bx w wk) : Below bx w (resW wk bx u v d) := by
  have q : ∀ {w' : World} (p : Addr) (y : Value), Below bx w w' → bx ≤ p.block → Below bx w (w'.setCell p y) := fun p y hb hp => below_set hb p y hp
  refine q _ _ (q _ _ (q _ _ (q _ _ (q _ _ (q _ _ (q _ _ h ?_) ?_) ?_) ?_) ?_) ?_) ?_
  all_goals (simp only; omega)
theorem resW_desko {wk : World} {bx : Nat} {u v u' v' : Value} {D : DeskD} {d : CaseD} (h : DeskO wk (bx + 1 + 1 + 1) u' v' D) : DeskO (resW wk bx u v d) (bx + 1 + 1 + 1) u' v' D := by
  have qo : ∀ {w' : World} (p : Addr) (y : Value), DeskO w' (bx + 1 + 1 + 1) u' v' D → p.block < bx + 1 + 1 + 1 → DeskO (w'.setCell p y) (bx + 1 + 1 + 1) u' v' D := fun p y h hp => h.set p y hp
  refine qo _ _ (qo _ _ (qo _ _ (qo _ _ (qo _ _ (qo _ _ (qo _ _ h ?_) ?_) ?_) ?_) ?_) ?_) ?_
  all_goals (simp only; omega)
theorem RkS.bad {w wk : World} {bx : Nat} {u x : Value} {id : Int} {D : DeskD} (h : RkS w wk bx u x D) (hx : bx = w.heap.size) {e : Int} (he : ackE D id = e) (hne : e ≠ 0) :
    AckP D id w (.returned (.tuple #[.agg #[.slice none 0 0, .slice none 0 0], caseV zeroK, .int .i64 e])) (resW wk bx (.slice none 0 0) (.slice none 0 0) zeroK) := by
  subst hx
  refine ⟨.slice none 0 0, .slice none 0 0, ?_, ?_, resW_below h.b⟩
  · unfold ackK; rw [he, if_neg hne]
  · unfold ackD; rw [he, if_neg hne]; exact DeskO.zero _ _
set_option maxRecDepth 100000 in
set_option maxHeartbeats 4000000 in
theorem refAck_any {P : Nat → Prop} (v : Value) (id : Int) (D : DeskD) (w : World) (hD : DeskR P w v D) (sD : DeskS D) :
    Calls Try.prog 43 #[v, .int .i64 id] w (AckP D id w) := by
  have HD := Lib.hid hD
  have HS := Lib.hid sD
  obtain ⟨A0, ca0, B0, cb0, rfl, h1, h2⟩ := hD
  clear h1 h2 sD
  go_enter Try.func43, Try.ntmps43
  go_wp2_with fail
  refine gen_calls fun w1 hw1 => ?_
  have HB1 := Lib.hid (show Below w.heap.size w w1 from by rw [hw1]; exact bl_alloc _ (bl_alloc _ (below_alloc _ _)))
  have D1 := Lib.hid (show DeskCell w1 w.heap.size (.slice A0 D.cs.length ca0) (.slice B0 D.ks.length cb0) from by rw [hw1]; exact ((DeskCell.new _ _ rfl).below (below_alloc _ _)).below (below_alloc _ _))
  have Z1 := Lib.hid (show DeskCell w1 (w.heap.size + 1) (.slice none 0 0) (.slice none 0 0) from by rw [hw1]; exact (DeskCell.new _ _ (by simp)).below (below_alloc _ _))
  have C1 := Lib.hid (show CaseC w1 (w.heap.size + 1 + 1) zeroK from by rw [hw1]; exact CaseC.new zeroK (by simp))
  clear hw1
  generalize hbx : w.heap.size = bx at *
  have HBX := Lib.hid hbx
  refine (refCopy_any _ D w1 (HD.out.below (show Below w.heap.size w w1 from by rw [hbx]; exact HB1.out)) HS.out).mono ?_
  rintro e w2 ⟨u, x, rfl, hO, hb2⟩
  clear hbx
  obtain ⟨A, ca, B, cb, rfl, rfl⟩ := hO.forms
  have HO := Lib.hid hO
  have d2 := D1.out.below hb2
  have HD2 := Lib.hid d2
  have HZ2 := Lib.hid (Z1.out.below hb2)
  have HC2 := Lib.hid (C1.out.below hb2)
  have HB2 := Lib.hid (HB1.out.trans (hb2.mono (by have := D1.out.lt; omega)))
  have c0 := d2.c0
  have c1 := d2.c1
  have f0 := d2.fz 0
  have f1 := d2.fz 1
  have l0 := d2.lt
  have z1 := C1.out.lt
  clear hO d2 hb2
  go_wp2_with fail
  refine gen_calls fun w3 hw3 => ?_
  have HG := Lib.hid (show RkS w w3 bx (.slice A D.cs.length ca) (.slice B D.ks.length cb) D from by
    rw [hw3]
    exact ⟨below_set (below_set HB2.out ⟨bx, 0, none⟩ _ (Nat.le_refl _)) ⟨bx, 1, none⟩ _ (Nat.le_refl _), (HD2.out.set0 _).set1 _,
      (HZ2.out.other ⟨bx, 0, none⟩ _ (by show bx + 1 ≠ bx; omega)).other ⟨bx, 1, none⟩ _ (by show bx + 1 ≠ bx; omega),
      (Below.heap_setCell _ _ _ _ (by show bx + 1 + 1 ≠ bx; omega)).trans ((Below.heap_setCell _ _ _ _ (by show bx + 1 + 1 ≠ bx; omega)).trans HC2.out),
      ((HO.out.set ⟨bx, 0, none⟩ _ (by show bx < _; omega)).set ⟨bx, 1, none⟩ _ (by show bx < _; omega)).lower (by omega)⟩)
  clear hw3 c0 c1 f0 f1 l0 z1
  refine ret_below (refCheck_any _ D w3 HG.out.o.read HS.out) fun w4 hb4 => ?_
  replace HG := Lib.hid (HG.out.below hb4)
  clear hb4
  have c0 := HG.out.d.c0
  have c1 := HG.out.d.c1
  have z0 := HG.out.z.c0
  have z1 := HG.out.z.c1
  have g0 := HG.out.z.fz 0
  have g1 := HG.out.z.fz 1
  have k0 := HG.out.c.c0
  have k1 := HG.out.c.c1
  have k2 := HG.out.c.c2
  have k3 := HG.out.c.c3
  have k4 := HG.out.c.c4
  have kf0 := HG.out.c.fz 0
  have kf1 := HG.out.c.fz 1
  have kf2 := HG.out.c.fz 2
  have kf3 := HG.out.c.fz 3
  have kf4 := HG.out.c.fz 4
  have l0 := HG.out.d.lt
  have l2 := HG.out.z.lt
  have l3 := HG.out.c.lt
  by_cases hc : chkB D = true
  · have hv : chkE D = 0 := by unfold chkE; rw [if_pos hc]
    rw [hv]
    have HV := Lib.hid hv
    clear hc hv
    go_wp2_with fail
    obtain ⟨A', ca', B', cb', e, hcp, -⟩ := HG.out.o.read
    injection e with e; injection e with e; injection e with e1 e; injection e with e2 e
    injection e1 with e3 e4 e5
    subst e3 e5
    have HCP := Lib.hid hcp
    clear e e2 e4 hcp
    refine ret_pure (refFind_any A D.cs ca id w4 HCP.out (by have := HS.out.lc; omega)) ?_
    by_cases hf : fndC D.cs id < 0
    · have HE := Lib.hid (show ackE D id = 41 from by unfold ackE; rw [if_neg (by rw [HV.out]; decide), if_pos hf])
      generalize fndC D.cs id = fd at *
      go_wp2_with fail
      refine bodyPost_ret (results_deskcase rfl _ _ (bx + 1) (bx + 1 + 1) rfl rfl (resW_desk (u := .slice none 0 0) (v := .slice none 0 0) (d := zeroK) HG.out.z) (resW_case (u := .slice none 0 0) (v := .slice none 0 0) (d := zeroK) HG.out.c)) rfl ?_
      exact HG.out.bad HBX.out.symm HE.out (by decide)
    · have HF := Lib.hid hf
      have HFE := Lib.hid (show ackE D id = if unI D id < 0 then 5 else 0 from by unfold ackE; rw [if_neg (by rw [HV.out]; decide), if_neg hf])
      generalize fndC D.cs id = fd at *
      have HOK := Lib.hid HG.out.o.ks
      have HLK := Lib.hid HS.out.lk
      go_wp2_with fail
      go_loop [7] (fun i => ∃ k : Nat, k ≤ D.ks.length ∧ i = .int .i64 k ∧ (∀ j, j < k → unC id (kAt D.ks j) = false)) (fun i => D.ks.length - (intOf i).toNat)
      case atStart => exact ⟨0, Nat.zero_le _, rfl, fun j hj => absurd hj (by omega)⟩
      case round =>
        obtain ⟨m, hm, rfl, hpre⟩ := hrel
        have HP := Lib.hid hpre
        clear hpre
        by_cases hml : m < D.ks.length
        · obtain ⟨g, rfl⟩ : ∃ g, B = some ⟨g, 0, none⟩ := by
            rcases HOK.out.2 with ⟨h0, h1⟩ | ⟨g, cap, cur, hv, -⟩
            · injection h0 with e1 e2
              omega
            · injection hv with e1
              exact ⟨g, e1⟩
          have u1 : (0 : Int) ≤ (m : Int) := by omega
          have u2 : (m : Int) < (D.ks.length : Int) := by omega
          have u3 : (D.ks.length : Int) ≤ 1000 := by have := HLK.out; omega
          obtain ⟨hgl, hgb, hgc, hgf⟩ := HOK.out.slot (kAt_get hml)
          have q0 : w4.cell? ⟨g, m * 5, none⟩ = some (.int .i64 (kAt D.ks m).c) := hgc 0 (by show 0 < 5; omega)
          have q4 : w4.cell? ⟨g, m * 5 + 4, none⟩ = some (.bool (kAt D.ks m).s) := hgc 4 (by show 4 < 5; omega)
          have qf := hgf (m * 5 + 4)
          have HML := Lib.hid hml
          clear hgc hgf
          cases hcc : (kAt D.ks m).c == id with
          | false =>
            have HX := Lib.hid (show unC id (kAt D.ks m) = false from by unfold unC; rw [hcc]; rfl)
            go_wp2_with fail
            go_round
            case rel =>
              refine ⟨m + 1, by omega, by go_num, fun j hj => ?_⟩
              by_cases hjk : j = m
              · subst hjk; exact HX.out
              · exact HP.out j (by omega)
            case measure => simp [intOf]; omega
          | true =>
            have HCC := Lib.hid hcc
            cases hss : (kAt D.ks m).s with
            | true =>
              have HX := Lib.hid (show unC id (kAt D.ks m) = false from by unfold unC; rw [hss]; simp)
              rw [hss] at q4
              clear hss
              go_wp2_with fail
              go_round
              case rel =>
                refine ⟨m + 1, by omega, by go_num, fun j hj => ?_⟩
                by_cases hjk : j = m
                · subst hjk; exact HX.out
                · exact HP.out j (by omega)
              case measure => simp [intOf]; omega
            | false =>
              have HM := Lib.hid (show unI D id = (m : Int) from ixCs_at hml (by unfold unC; rw [HCC.out, hss]; rfl) HP.out)
              have HE := Lib.hid (show ackE D id = 0 from by rw [HFE.out, HM.out, if_neg (by omega)])
              rw [hss] at q4
              clear hss
              go_upto_region 11 with fail
              refine gen_world fun w7 hw7 => ?_
              have HO7 := Lib.hid (show ElOwn EK 37 w7 (bx + 1 + 1 + 1) (.slice (some ⟨g, 0, none⟩) D.ks.length cb) (D.ks.set m (seenK (kAt D.ks m))) from by rw [hw7]; exact HOK.out.set1 (j := 4) (kAt_get HML.out) (by show 4 < 5; omega) rfl)
              have HG7 := Lib.hid (show ∀ b, b ≠ g → w7.heap[b]? = w4.heap[b]? from by rw [hw7]; exact fun b hb => Below.heap_setCell w4 ⟨g, m * 5 + 4, none⟩ _ b hb)
              have hs7 : w7.heap.size = w4.heap.size := by rw [hw7]; simp [World.setCell]
              have hb7 := Lib.hid (show Below bx w w7 from by rw [hw7]; exact below_set HG.out.b ⟨g, m * 5 + 4, none⟩ _ (by show bx ≤ g; omega))
              clear hw7
              clear c0 c1 z0 z1 g0 g1 k0 k1 k2 k3 k4 kf0 kf1 kf2 kf3 kf4 l0 l2 l3 q0 q4 qf hcc
              have D7 := Lib.hid (HG.out.d.keep (HG7.out bx (by omega)))
              have Z7 := Lib.hid (HG.out.z.keep (HG7.out (bx + 1) (by omega)))
              have C7 := Lib.hid (show CaseC w7 (bx + 1 + 1) zeroK from (HG7.out _ (by omega)).trans HG.out.c)
              have c0 := D7.out.c0
              have c1 := D7.out.c1
              have l0 := D7.out.lt
              have z0 := Z7.out.c0
              have z1 := Z7.out.c1
              have g0 := Z7.out.fz 0
              have g1 := Z7.out.fz 1
              have l2 := Z7.out.lt
              have k0 := C7.out.c0
              have k1 := C7.out.c1
              have k2 := C7.out.c2
              have k3 := C7.out.c3
              have k4 := C7.out.c4
              have kf0 := C7.out.fz 0
              have kf1 := C7.out.fz 1
              have kf2 := C7.out.fz 2
              have kf3 := C7.out.fz 3
              have kf4 := C7.out.fz 4
              have l3 := C7.out.lt
              have hl7 : (D.ks.set m (seenK (kAt D.ks m)))[m]? = some (seenK (kAt D.ks m)) := by rw [List.getElem?_set_self HML.out]
              obtain ⟨hgl7, -, hgc, -⟩ := HO7.out.slot hl7
              have q0 : w7.cell? ⟨g, m * 5, none⟩ = some (.int .i64 (kAt D.ks m).c) := hgc 0 (by show 0 < 5; omega)
              have q1 : w7.cell? ⟨g, m * 5 + 1, none⟩ = some (.string (kAt D.ks m).r) := hgc 1 (by show 1 < 5; omega)
              have q2 : w7.cell? ⟨g, m * 5 + 2, none⟩ = some (.string (kAt D.ks m).o) := hgc 2 (by show 2 < 5; omega)
              have q3 : w7.cell? ⟨g, m * 5 + 3, none⟩ = some (.int .i64 (kAt D.ks m).t) := hgc 3 (by show 3 < 5; omega)
              have q4 : w7.cell? ⟨g, m * 5 + 4, none⟩ = some (.bool true) := hgc 4 (by show 4 < 5; omega)
              have HKM := Lib.hid (show ackK D id = seenK (kAt D.ks m) from by unfold ackK; rw [HE.out, if_pos rfl, HM.out]; rfl)
              have HKD := Lib.hid (show ackD D id = ⟨D.cs, D.ks.set m (seenK (kAt D.ks m))⟩ from by unfold ackD; rw [HE.out, if_pos rfl, HM.out]; rfl)
              clear hl7 hgc
              generalize kAt D.ks m = x at *
              have HAP := Lib.hid (show AckP D id w (.returned (.tuple #[.agg #[.slice A D.cs.length ca, .slice (some ⟨g, 0, none⟩) D.ks.length cb], caseV ⟨x.c, x.r, x.o, x.t, true⟩, .int .i64 0])) (resW w7 bx (.slice A D.cs.length ca) (.slice (some ⟨g, 0, none⟩) D.ks.length cb) ⟨x.c, x.r, x.o, x.t, true⟩).drew from by
                refine ⟨.slice A D.cs.length ca, .slice (some ⟨g, 0, none⟩) D.ks.length cb, ?_, ?_, ?_⟩
                · rw [HKM.out, HE.out]; rfl
                · rw [HKD.out, HBX.out]; exact ((resW_desko (HG.out.o.turn HO7.out hs7 HG7.out)).lower (by omega)).below (Below.drew (Below.refl _ _))
                · rw [HBX.out]; exact Below.drew (resW_below hb7.out))
              have HDK := Lib.hid (show DeskCell (resW w7 bx (.slice A D.cs.length ca) (.slice (some ⟨g, 0, none⟩) D.ks.length cb) ⟨x.c, x.r, x.o, x.t, true⟩).drew (bx + 1) (.slice A D.cs.length ca) (.slice (some ⟨g, 0, none⟩) D.ks.length cb) from (resW_desk Z7.out).below (Below.drew (Below.refl _ _)))
              have HCK := Lib.hid (show CaseC (resW w7 bx (.slice A D.cs.length ca) (.slice (some ⟨g, 0, none⟩) D.ks.length cb) ⟨x.c, x.r, x.o, x.t, true⟩).drew (bx + 1 + 1) ⟨x.c, x.r, x.o, x.t, true⟩ from (resW_case C7.out).below (Below.drew (Below.refl _ _)))
              go_region
              refine gen_fin fun wf hwf => ?_
              replace hwf : wf = (resW w7 bx (.slice A D.cs.length ca) (.slice (some ⟨g, 0, none⟩) D.ks.length cb) ⟨x.c, x.r, x.o, x.t, true⟩).drew := hwf
              rw [← hwf] at HAP HDK HCK
              clear hwf
              go_wp2_with fail
              refine bodyPost_ret (results_deskcase rfl _ _ (bx + 1) (bx + 1 + 1) rfl rfl HDK.out HCK.out) rfl ?_
              exact HAP.out
        · have HE := Lib.hid (show ackE D id = 5 from by rw [HFE.out, show unI D id = -1 from ixCs_no (fun j hj => HP.out j (by omega)), if_pos (by decide)])
          have u3 : ¬ (m : Int) < (D.ks.length : Int) := by omega
          go_wp2_with fail
          refine bodyPost_ret (results_deskcase rfl _ _ (bx + 1) (bx + 1 + 1) rfl rfl (resW_desk (u := .slice none 0 0) (v := .slice none 0 0) (d := zeroK) HG.out.z) (resW_case (u := .slice none 0 0) (v := .slice none 0 0) (d := zeroK) HG.out.c)) rfl ?_
          exact HG.out.bad HBX.out.symm HE.out (by decide)
  · have hv : chkE D = 1 := by unfold chkE; rw [if_neg hc]
    rw [hv]
    have HE := Lib.hid (show ackE D id = 1 from by unfold ackE; rw [hv]; rfl)
    clear hc hv
    go_wp2_with fail
    refine bodyPost_ret (results_deskcase rfl _ _ (bx + 1) (bx + 1 + 1) rfl rfl (resW_desk (u := .slice none 0 0) (v := .slice none 0 0) (d := zeroK) HG.out.z) (resW_case (u := .slice none 0 0) (v := .slice none 0 0) (d := zeroK) HG.out.c)) rfl ?_
    exact HG.out.bad HBX.out.symm HE.out (by decide)
end Go.Proofs.Ytjckpammcgeloaa
namespace Go.Proofs.Ytjckpammcgeloaa
open Go.RowKit

/-- A desk of the call's own, of which block N is no part. -/
structure DeskN (N : Nat) (w : World) (base : Nat) (u v : Value) (D : DeskD) : Prop where
  cs : ∃ X, ElOwn EC 45 w base u X ∧ CousV (fun b => base ≤ b ∧ u.ownBlock ≠ some b ∧ v.ownBlock ≠ some b ∧ b ≠ N) w X D.cs
  ks : ElOwn EK 37 w base v D.ks
  ne : ∀ b, u.ownBlock = some b → v.ownBlock ≠ some b
  nu : u.ownBlock ≠ some N
  nv : v.ownBlock ≠ some N
section
variable {N base : Nat} {w w' : World} {u v : Value} {D : DeskD}
theorem DeskN.of_lo (h : DeskO w base u v D) (hN : N < base) : DeskN N w base u v D := by
  obtain ⟨X, h1, h2⟩ := h.cs
  exact ⟨⟨X, h1, h2.mono fun b _ h => ⟨h.1, h.2.1, h.2.2, by have := h.1; omega⟩⟩, h.ks, h.ne, fun e => by have := (World.ownsRow.lt h1 N e).1; omega, fun e => by have := (World.ownsRow.lt h.ks N e).1; omega⟩
theorem DeskN.of_hi (h : DeskO w base u v D) (hN : w.heap.size ≤ N) : DeskN N w base u v D := by
  obtain ⟨X, h1, h2⟩ := h.cs
  exact ⟨⟨X, h1, h2.mono fun b hb h => ⟨h.1, h.2.1, h.2.2, by omega⟩⟩, h.ks, h.ne, fun e => by have := (World.ownsRow.lt h1 N e).2; omega, fun e => by have := (World.ownsRow.lt h.ks N e).2; omega⟩
theorem DeskN.o (h : DeskN N w base u v D) : DeskO w base u v D := by
  obtain ⟨X, h1, h2⟩ := h.cs
  exact ⟨⟨X, h1, h2.mono fun b _ h => ⟨h.1, h.2.1, h.2.2.1⟩⟩, h.ks, h.ne⟩
theorem DeskN.lower {base' : Nat} (h : DeskN N w base u v D) (hb : base' ≤ base) : DeskN N w base' u v D := by
  obtain ⟨X, h1, h2⟩ := h.cs
  exact ⟨⟨X, h1.mono hb, h2.mono fun b _ h => ⟨by omega, h.2⟩⟩, h.ks.mono hb, h.ne, h.nu, h.nv⟩
theorem DeskN.below (h : DeskN N w base u v D) (hb : Below w.heap.size w w') : DeskN N w' base u v D := by
  obtain ⟨X, h1, h2⟩ := h.cs
  exact ⟨⟨X, h1.below hb, h2.keep (Kpt.below hb)⟩, h.ks.below hb, h.ne, h.nu, h.nv⟩
theorem DeskN.set (h : DeskN N w base u v D) (k : Nat) (y : Value) : DeskN N (w.setCell ⟨N, k, none⟩ y) base u v D := by
  obtain ⟨X, h1, h2⟩ := h.cs
  exact ⟨⟨X, h1.kept (fun j hj => Below.heap_setCell w _ y j (fun e => h.nu (by rw [hj, show j = N from e]))), h2.keep (Kpt.set w _ y (fun b hb => hb.2.2.2))⟩, h.ks.kept (fun j hj => Below.heap_setCell w _ y j (fun e => h.nv (by rw [hj, show j = N from e]))), h.ne, h.nu, h.nv⟩
theorem vAt_erase {C : List CouV} {i j : Nat} : vAt (C.eraseIdx i) j = if j < i then vAt C j else vAt C (j + 1) := by
  unfold vAt
  simp only [List.getD_eq_getElem?_getD, List.getElem?_eraseIdx]
  split <;> rfl
theorem CousV.erase {P : Nat → Prop} {X : List CouV} {C : List CouD} (h : CousV P w X C) {i : Nat} (hi : i < C.length) : CousV P w (X.eraseIdx i) (C.eraseIdx i) := by
  refine ⟨by rw [List.length_eraseIdx, List.length_eraseIdx, h.len], fun k hk => ?_⟩
  rw [List.length_eraseIdx, if_pos hi] at hk
  rw [vAt_erase, cAt_erase]
  split
  · exact h.at_ k (by omega)
  · exact h.at_ (k + 1) (by omega)
/-- A counsellor is taken out. -/
theorem DeskN.delC {g n n' c : Nat} {X : List CouV} {i : Nat} (h : DeskN N w base (.slice (some ⟨g, 0, none⟩) n c) v D) (hX : CousV (fun b => base ≤ b ∧ (Value.slice (some ⟨g, 0, none⟩) n c).ownBlock ≠ some b ∧ v.ownBlock ≠ some b ∧ b ≠ N) w X D.cs) (hi : i < D.cs.length)
    (ho : ElOwn EC 45 w' base (.slice (some ⟨g, 0, none⟩) n' c) (X.eraseIdx i)) (hg : w.grownBy w' (some g)) : DeskN N w' base (.slice (some ⟨g, 0, none⟩) n' c) v ⟨D.cs.eraseIdx i, D.ks⟩ := by
  refine ⟨⟨_, ho, ((hX.erase hi).keep (Kpt.grown hg (fun b hb => hb.2.1))).mono fun b _ h => h⟩, h.ks.kept (fun k hk => hg.block k (World.ownsRow.lt h.ks k hk).2 (fun e => ?_)), h.ne, h.nu, h.nv⟩
  have e : k = g := by injection e
  subst e
  exact h.ne k rfl hk
/-- Cases are taken out. -/
theorem DeskN.delK {v' : Value} {K' : List CaseD} (h : DeskN N w base u v D) (ho : ElOwn EK 37 w' base v' K') (hv : ∀ b, v'.ownBlock = some b → v.ownBlock = some b) (hg : w.grownBy w' v.ownBlock) : DeskN N w' base u v' ⟨D.cs, K'⟩ := by
  obtain ⟨X, h1, h2⟩ := h.cs
  refine ⟨⟨X, h1.kept (fun k hk => hg.block k (World.ownsRow.lt h1 k hk).2 (fun e => h.ne k hk e.symm)), ?_⟩, ho, fun b hb e => h.ne b hb (hv b e), h.nu, fun e => h.nv (hv N e)⟩
  exact (h2.keep (Kpt.grown hg (fun b hb => hb.2.2.1))).mono fun b _ q => ⟨q.1, q.2.1, fun e => q.2.2.1 (hv b e), q.2.2.2⟩
end
theorem below_none {w w' : World} (h : w.grownBy w' none) : Below w.heap.size w w' := ⟨h.os, h.tape, h.output, h.size, fun k hk => h.block k hk (fun e => by cases e)⟩
def DelV (w : World) (base : Nat) (v : Value) (S : List CaseD) (e : Ending) (w' : World) : Prop := ∃ v', e = .returned v' ∧ ElOwn EK 37 w' base v' S ∧ (∀ b, v'.ownBlock = some b → v.ownBlock = some b) ∧ w.grownBy w' v.ownBlock
set_option maxRecDepth 100000 in
set_option maxHeartbeats 1000000 in
theorem deleteK_nil (n : Nat) (u : Value) (T : CaseD → Bool) (w : World) (hn : ∀ args w, (callFunc n args).run Try.prog w = .ok (.enter n args) w) (hT : ∀ (W : World) (d : CaseD), w.grownBy W none → Calls Try.prog n #[caseV d, u] W (RetB (.bool (T d)) W)) :
    Calls Try.prog 29 #[.slice none 0 0, .func (.func n) #[] #[u]] w (RetB (.slice none 0 0) w) := by
  have HI := Lib.hid (idxK2_any (P := fun _ => True) n u T none [] 0 w (ElP.nil _ _ _) (by simp) hn (fun W d hb => hT W d (grown_of_below hb)))
  clear hT
  go_enter Try.func29, Try.ntmps29
  go_wp2_with fail
  refine ret_below HI.out fun w1 hb => ?_
  rw [show ixK T [] = -1 from rfl]
  have HB := Lib.hid hb
  clear hb
  go_wp2_with fail
  go_ret
  exact RetB.val rfl HB.out
theorem deleteV_any (n : Nat) (p : Value) (T : CaseD → Bool) (base : Nat) (v : Value) (S : List CaseD) (w : World) (hown : ElOwn EK 37 w base v S) (hl : S.length ≤ 100000) (hn : ∀ args w, (callFunc n args).run Try.prog w = .ok (.enter n args) w)
    (hT : ∀ (W : World) (d : CaseD), w.grownBy W v.ownBlock → Calls Try.prog n #[caseV d, p] W (RetB (.bool (T d)) W)) :
    Calls Try.prog 29 #[v, .func (.func n) #[] #[p]] w (DelV w base v (S.filter fun y => !T y)) := by
  rcases hown.2 with ⟨rfl, h0⟩ | ⟨g, cap, cur, rfl, -⟩
  · have : S = [] := List.eq_nil_of_length_eq_zero h0
    subst this
    refine (deleteK_nil n p T w hn hT).mono ?_
    rintro e w' ⟨rfl, hb⟩
    exact ⟨_, rfl, ElOwn.nil _ _ _ _, fun b e => (by cases e), grown_of_below hb⟩
  · refine (deleteK_any n p T base g cap S w hown hl hn hT).mono ?_
    rintro e w' ⟨v', rfl, h1, h2, h3⟩
    refine ⟨v', rfl, h1, fun b e => ?_, h3⟩
    rcases h2 with rfl | h2
    · cases e
    · rw [h2] at e; exact e
theorem lv1_any (p : Nat) (id : Int) (w : World) (d : CaseD) (hp : p < w.heap.size) (hc : w.cell? ⟨p, 0, none⟩ = some (.int .i64 id)) :
    Calls Try.prog 30 #[caseV d, .pointer (some ⟨p, 0, none⟩)] w (RetB (.bool (ofC id d)) w) := by
  have HV := Lib.hid (show (d.c == id) = ofC id d from rfl)
  go_enter Try.func30, Try.ntmps30
  go_wp2_with fail
  go_ret
  exact RetB.bool HV.out (below_alloc _ _)
theorem enter_lv1 (args : Array Value) (w : World) : (callFunc 30 args).run Try.prog w = .ok (.enter 30 args) w :=
  Go.MuLone.run_callFunc_enter Try.func30 (by kernel_rfl) rfl args w
end Go.Proofs.Ytjckpammcgeloaa
namespace Go.Proofs.Ytjckpammcgeloaa
open Go.RowKit

def lvF (O : DeskD) (c : CaseD) (u x : Value) : Value := .tuple #[.agg #[u, x], .int .i64 (giveI O c.r c.o (mxI c.t (lastT O.ks))), .int .i64 (giveE O c.r c.o (mxI c.t (lastT O.ks)))]
theorem lvF_inj {O : DeskD} {c : CaseD} {u x u' x' : Value} (h : lvF O c u x = lvF O c u' x') : u = u' ∧ x = x' := by
 unfold lvF at h; simp at h; exact h
theorem lvF_agg {u x u' x' : Value} (h : u = u' ∧ x = x') : Value.agg #[u, x] = Value.agg #[u', x'] := by rw [h.1, h.2]
theorem enter_give (args : Array Value) (w : World) : (callFunc 16 args).run Try.prog w = .ok (.enter 16 args) w :=
 Go.MuLone.run_callFunc_enter Try.func16 (by kernel_rfl) rfl args w
theorem enter_last (args : Array Value) (w : World) : (callFunc 31 args).run Try.prog w = .ok (.enter 31 args) w :=
 Go.MuLone.run_callFunc_enter Try.func31 (by kernel_rfl) rfl args w
theorem CaseC.keep' {w w' : World} {x : Nat} {d : CaseD} (h : CaseC w x d) (hb : w'.heap[x]? = w.heap[x]?) : CaseC w' x d := hb.trans h
theorem DvJ.val {W0 w : World} {ro : Option Nat} {c m e a s : Nat} {F : Value → Value → Value} {D : DeskD} {V : Nat → Value} {L : Nat → Bool} (h : DvJ W0 ro c m e a s F D V L w) (hc : L c = true) : ∃ u x, V c = F u x ∧ True := by
 cases q : L s with
 | false =>
  obtain ⟨wX, B, u, x, r, -⟩ := h.dk hc q
  exact ⟨u, x, r, trivial⟩
 | true =>
  obtain ⟨nb, -, -, -, -, r⟩ := h.al (h.es q).2
  obtain ⟨u, x, r, -⟩ := r q
  exact ⟨u, x, r, trivial⟩
theorem results_desk2 {fn : Func} {t s : Tmp} (h : fn.results = #[.cell t 30, .tmp s]) (tmps : Array Value) (w : World) (g : Nat) (hp : tmps.getD t undef = .pointer (some ⟨g, 0, none⟩)) {a b : Value} (hX : DeskCell w g a b) :
  (results fn tmps).run Try.prog w = .ok (.tuple #[.agg #[a, b], tmps.getD s undef]) w := by
 have hp' : tmps[t]?.getD undef = .pointer (some ⟨g, 0, none⟩) := by simpa using hp
 have hr := run_loadVar_row (P := Try.prog) w g 30 30 _ (0, 0) _ hX Try.underlying30 rfl (by kernel_rfl)
 simp [results, h, hp', asAddr, hr]
def LeaveP (D : DeskD) (id : Int) (w : World) (e : Ending) (w' : World) : Prop :=
 ∃ u x, e = .returned (.tuple #[.agg #[u, x], .int .i64 (leaveE D id)]) ∧ DeskO w' w.heap.size u x (leaveD D id) ∧ Below w.heap.size w w'
structure LvS (w wk : World) (bx : Nat) (u x : Value) (id : Int) (D : DeskD) : Prop where
 b : Below bx w wk
 d : DeskCell wk bx u x
 i : BoxE wk (bx + 1) (.int .i64 id) 3
 z : DeskCell wk (bx + 1 + 1) (.slice none 0 0) (.slice none 0 0)
 o : DeskO wk (bx + 1 + 1 + 1) u x D
section
variable {w wk w' : World} {bx : Nat} {u x : Value} {id : Int} {D : DeskD}
theorem LvS.below (h : LvS w wk bx u x id D) (hb : Below wk.heap.size wk w') : LvS w w' bx u x id D := by
 have := h.d.lt
 exact ⟨h.b.trans (hb.mono (by omega)), h.d.below hb, h.i.below hb, h.z.below hb, h.o.below hb⟩
theorem LvS.ret (h : LvS w wk bx u x id D) (hx : bx = w.heap.size) {u' x' : Value} {O : DeskD} {B : Nat} (ho : DeskO wk B u' x' O) (hB : bx + 1 + 1 < B) {er : Int} (he : leaveE D id = er) (hd : leaveD D id = O) :
  LeaveP D id w (.returned (.tuple #[.agg #[u', x'], .int .i64 er])) ((wk.setCell ⟨bx + 1 + 1, 0, none⟩ u').setCell ⟨bx + 1 + 1, 1, none⟩ x') := by
 subst hx; subst he; subst hd
 refine ⟨u', x', rfl, ((ho.set ⟨w.heap.size + 1 + 1, 0, none⟩ _ hB).set ⟨w.heap.size + 1 + 1, 1, none⟩ _ hB).lower (by omega), below_set (below_set h.b ⟨w.heap.size + 1 + 1, 0, none⟩ _ (by show w.heap.size ≤ w.heap.size + 1 + 1; omega)) ⟨w.heap.size + 1 + 1, 1, none⟩ _ (by show w.heap.size ≤ w.heap.size + 1 + 1; omega)⟩
theorem LvS.cell (h : LvS w wk bx u x id D) (u' x' : Value) : DeskCell ((wk.setCell ⟨bx + 1 + 1, 0, none⟩ u').setCell ⟨bx + 1 + 1, 1, none⟩ x') (bx + 1 + 1) u' x' := (h.z.set0 u').set1 x'
end
set_option maxRecDepth 100000 in
set_option maxHeartbeats 8000000 in
theorem leave_any {P : Nat → Prop} (v : Value) (id : Int) (D : DeskD) (w : World) (hD : DeskR P w v D) (sD : DeskS D) :
  Calls Try.prog 13 #[v, .int .i64 id] w (LeaveP D id w) := by
 have HD := Lib.hid hD
 have HS := Lib.hid sD
 obtain ⟨A0, ca0, B0, cb0, rfl, h1, h2⟩ := hD
 clear h1 h2 sD
 go_enter Try.func13, Try.ntmps13
 go_wp2_with fail
 refine gen_calls fun w1 hw1 => ?_
 have HB1 := Lib.hid (show Below w.heap.size w w1 from by rw [hw1]; exact bl_alloc _ (bl_alloc _ (below_alloc _ _)))
 have D1 := Lib.hid (show DeskCell w1 w.heap.size (.slice A0 D.cs.length ca0) (.slice B0 D.ks.length cb0) from by rw [hw1]; exact ((DeskCell.new _ _ rfl).below (below_alloc _ _)).below (below_alloc _ _))
 have I1 := Lib.hid (show BoxE w1 (w.heap.size + 1) (.int .i64 id) 3 from by rw [hw1]; exact (BoxE.new _ _ (by simp)).below (below_alloc _ _))
 have Z1 := Lib.hid (show DeskCell w1 (w.heap.size + 1 + 1) (.slice none 0 0) (.slice none 0 0) from by rw [hw1]; exact DeskCell.new _ _ (by simp))
 clear hw1
 generalize hbx : w.heap.size = bx at *
 have HBX := Lib.hid hbx
 refine (copied_any _ D w1 (HD.out.below (show Below w.heap.size w w1 from by rw [hbx]; exact HB1.out)) HS.out).mono ?_
 rintro e w2 ⟨u, x, rfl, hO, hb2⟩
 clear hbx
 obtain ⟨A, ca, B, cb, rfl, rfl⟩ := hO.forms
 have HO := Lib.hid hO
 have d2 := D1.out.below hb2
 have HD2 := Lib.hid d2
 have HI2 := Lib.hid (I1.out.below hb2)
 have HZ2 := Lib.hid (Z1.out.below hb2)
 have HB2 := Lib.hid (HB1.out.trans (hb2.mono (by have := D1.out.lt; omega)))
 have c0 := d2.c0
 have c1 := d2.c1
 have f0 := d2.fz 0
 have f1 := d2.fz 1
 have l0 := d2.lt
 have z1 := Z1.out.lt
 clear hO d2 hb2
 go_wp2_with fail
 refine gen_calls fun w3 hw3 => ?_
 have HG := Lib.hid (show LvS w w3 bx (.slice A D.cs.length ca) (.slice B D.ks.length cb) id D from by
  rw [hw3]
  exact ⟨below_set (below_set HB2.out ⟨bx, 0, none⟩ _ (Nat.le_refl _)) ⟨bx, 1, none⟩ _ (Nat.le_refl _), (HD2.out.set0 _).set1 _,
   (Below.heap_setCell _ _ _ _ (by show bx + 1 ≠ bx; omega)).trans ((Below.heap_setCell _ _ _ _ (by show bx + 1 ≠ bx; omega)).trans HI2.out),
   (HZ2.out.other ⟨bx, 0, none⟩ _ (by show bx + 1 + 1 ≠ bx; omega)).other ⟨bx, 1, none⟩ _ (by show bx + 1 + 1 ≠ bx; omega),
   ((HO.out.set ⟨bx, 0, none⟩ _ (by show bx < _; omega)).set ⟨bx, 1, none⟩ _ (by show bx < _; omega)).lower (by omega)⟩)
 clear hw3 c0 c1 f0 f1 l0 z1
 refine ret_below (check_any _ D w3 HG.out.o.read HS.out) fun w4 hb4 => ?_
 replace HG := Lib.hid (HG.out.below hb4)
 clear hb4
 have c0 := HG.out.d.c0
 have c1 := HG.out.d.c1
 have i0 := HG.out.i.cell
 have z0 := HG.out.z.c0
 have z1 := HG.out.z.c1
 have g0 := HG.out.z.fz 0
 have g1 := HG.out.z.fz 1
 have l0 := HG.out.d.lt
 have l1 := HG.out.i.lt
 have l2 := HG.out.z.lt
 by_cases hc : chkB D = true
 ·
  have hv : chkE D = 0 := by unfold chkE; rw [if_pos hc]
  have HY := Lib.hid (chk_y.1 hc)
  rw [hv]
  have HV := Lib.hid hv
  clear hc hv
  go_wp2_with fail
  refine ret_below (find_any _ id D w4 HG.out.o.read (by have := HS.out.lc; omega)) fun w5 hb5 => ?_
  replace HG := Lib.hid (HG.out.below hb5)
  clear hb5 c0 c1 i0 z0 z1 g0 g1 l0 l1 l2
  have c0 := HG.out.d.c0
  have c1 := HG.out.d.c1
  have i0 := HG.out.i.cell
  have z0 := HG.out.z.c0
  have z1 := HG.out.z.c1
  have g0 := HG.out.z.fz 0
  have g1 := HG.out.z.fz 1
  have l0 := HG.out.d.lt
  have l1 := HG.out.i.lt
  have l2 := HG.out.z.lt
  rcases fnd_cases D.cs id with ⟨hf, -⟩ | ⟨m, hf, hml, -⟩
  ·
   have HE := Lib.hid (show leaveE D id = 41 ∧ leaveD D id = D from by
    have h1 : leaveE D id = 41 := by unfold leaveE; rw [if_neg (by rw [HV.out]; decide), if_pos (by omega)]
    exact ⟨h1, by unfold leaveD; rw [h1]; rfl⟩)
   rw [hf]
   clear hf
   go_wp2_with fail
   refine bodyPost_ret (results_desk2 rfl _ _ (bx + 1 + 1) rfl (HG.out.cell _ _)) rfl ?_
   exact HG.out.ret HBX.out.symm HG.out.o (by omega) HE.out.1 HE.out.2
  ·
   have HF := Lib.hid hf
   have HML := Lib.hid hml
   rw [hf]
   have m0 : ¬ (m : Int) < 0 := by omega
   clear hf hml
   go_wp2_with fail
   refine (copied_any _ D w5 HG.out.o.read HS.out).mono ?_
   rintro e w6 ⟨u6, x6, rfl, hO6, hb6⟩
   obtain ⟨A6, ca6, B6, cb6, rfl, rfl⟩ := hO6.forms
   have HB6 := Lib.hid hb6
   have HO6 := Lib.hid hO6
   have HS6 := Lib.hid (show w5.heap.size ≤ w6.heap.size from hb6.size)
   clear c0 c1 i0 z0 z1 g0 g1 l0 l1 l2 hb6 hO6
   have i6 := (HG.out.below HB6.out).i.cell
   have l6 := (HG.out.below HB6.out).i.lt
   go_wp2_with fail
   clear i6 l6
   refine gen_calls fun w7 hw7 => ?_
   have HOC := Lib.hid (show DeskCell w7 w6.heap.size (.slice A6 D.cs.length ca6) (.slice B6 D.ks.length cb6) from by rw [hw7]; exact DeskCell.new _ _ rfl)
   have HB7 := Lib.hid (show Below w6.heap.size w6 w7 from by rw [hw7]; exact below_alloc _ _)
   clear hw7
   generalize hob : w6.heap.size = ob at *
   have HOB := Lib.hid hob
   have HN7 := Lib.hid (DeskN.of_hi (N := ob) HO6.out (by omega))
   clear hob
   replace HN7 := Lib.hid (HN7.out.below (show Below w6.heap.size w6 w7 from by rw [HOB.out]; exact HB7.out))
   have HS5 := Lib.hid (show w5.heap.size ≤ ob from by have := HS6.out; omega)
   have i7 := ((HG.out.below (HB6.out)).below (show Below w6.heap.size w6 w7 from by rw [HOB.out]; exact HB7.out)).i.cell
   have l7 := ((HG.out.below (HB6.out)).below (show Below w6.heap.size w6 w7 from by rw [HOB.out]; exact HB7.out)).i.lt
   have HB57 := Lib.hid (below_trans HB6.out (show Below w6.heap.size w6 w7 from by rw [HOB.out]; exact HB7.out))
   refine ret_below (find_any _ id D w7 HN7.out.o.read (by have := HS.out.lc; omega)) fun w8 hb8 => ?_
   replace HN7 := Lib.hid (HN7.out.below hb8)
   replace HOC := Lib.hid (HOC.out.below hb8)
   replace HB57 := Lib.hid (below_trans HB57.out hb8)
   clear hb8 i7 l7
   rw [HF.out]
   obtain ⟨X, hX1, hX2⟩ := HN7.out.cs
   have hXl : X.length = D.cs.length := hX2.len
   obtain ⟨g, rfl⟩ : ∃ g, A6 = some ⟨g, 0, none⟩ := by
    rcases hX1.2 with ⟨h0, h1⟩ | ⟨g, cap, cur, hv, -⟩
    ·
     have := HML.out; omega
    ·
     injection hv with e1
     exact ⟨g, e1⟩
   obtain ⟨q, hq⟩ : ∃ q, D.cs.length = m + q + 1 := ⟨D.cs.length - m - 1, by have := HML.out; omega⟩
   have HQ := Lib.hid hq
   have o0 := HOC.out.c0
   have o1 := HOC.out.c1
   have lo := HOC.out.lt
   have m1 : (0 : Int) ≤ (m : Int) := by omega
   have m2 : (m : Int) ≤ 100000 := by have := HML.out; have := HS.out.lc; omega
   have HX1 := Lib.hid hX1
   have HX2 := Lib.hid hX2
   clear hX1 hX2 hXl hq
   go_wp2_with fail
   refine (deleteC_any w5.heap.size g ca6 m q D.cs.length X w8 HX1.out HQ.out (by have := HS.out.lc; omega)).mono ?_
   rintro e w9 ⟨rfl, ho9, hg9⟩
   have hgo : g ≠ ob := fun e => HN7.out.nu (by rw [e]; rfl)
   have HN9 := Lib.hid (HN7.out.delC HX2.out HML.out ho9 hg9)
   have HC9 := Lib.hid (HOC.out.keep (hg9.block ob HOC.out.lt (fun e => hgo (by injection e with e; exact e.symm))))
   have HB59 := Lib.hid (show Below w5.heap.size w5 w9 from HB57.out.trans ((Below.refl w5.heap.size w8).grown hg9 HB57.out.size (fun j hj => by injection hj with hj; subst hj; exact (World.ownsRow.lt HX1.out g rfl).1)))
   clear o0 o1 lo ho9 hg9
   have o0 := HC9.out.c0
   have o1 := HC9.out.c1
   have of0 := HC9.out.fz 0
   have lo := HC9.out.lt
   go_wp2_with fail
   refine gen_calls fun w10 hw10 => ?_
   have HC10 := Lib.hid (show DeskCell w10 ob (.slice (some ⟨g, 0, none⟩) (m + q) ca6) (.slice B6 D.ks.length cb6) from by rw [hw10]; exact HC9.out.set0 _)
   have HN10 := Lib.hid (show DeskN ob w10 w5.heap.size (.slice (some ⟨g, 0, none⟩) (m + q) ca6) (.slice B6 D.ks.length cb6) ⟨D.cs.eraseIdx m, D.ks⟩ from by rw [hw10]; exact HN9.out.set 0 _)
   have HB510 := Lib.hid (show Below w5.heap.size w5 w10 from by rw [hw10]; exact below_set HB59.out ⟨ob, 0, none⟩ _ HS5.out)
   clear hw10 o0 o1 of0 lo
   have i10 := (HG.out.below HB510.out).i.cell
   have l10 := (HG.out.below HB510.out).i.lt
   have HBO := Lib.hid (show ∀ b, (Value.slice B6 D.ks.length cb6).ownBlock = some b → w5.heap.size ≤ b ∧ b ≠ ob from fun b hb => ⟨(World.ownsRow.lt HN10.out.ks b hb).1, fun e => HN10.out.nv (by rw [hb, e])⟩)
   refine (deleteV_any 30 (.pointer (some ⟨bx + 1, 0, none⟩)) (ofC id) w5.heap.size (.slice B6 D.ks.length cb6) D.ks w10 HN10.out.ks (by have := HS.out.lk; omega) enter_lv1 (fun W d hg => ?_)).mono ?_
   ·
    refine lv1_any (bx + 1) id W d (Nat.lt_of_lt_of_le l10 hg.size) ((World.cell?_of_block (w := w10) (hg.block (bx + 1) l10 (fun e => ?_))).trans i10)
    have := (HBO.out _ e.symm).1
    have := HG.out.i.lt
    omega
   rintro e w11 ⟨v11, rfl, ho11, hv11, hg11⟩
   obtain ⟨B11, cb11, rfl, -⟩ := ho11.toP
   have HN11 := Lib.hid (HN10.out.delK ho11 hv11 hg11)
   have HC11 := Lib.hid (HC10.out.keep (hg11.block ob HC10.out.lt (fun e => (HBO.out _ e.symm).2 rfl)))
   have HB511 := Lib.hid (show Below w5.heap.size w5 w11 from HB510.out.trans ((Below.refl w5.heap.size w10).grown hg11 HB510.out.size (fun j hj => (HBO.out j hj).1)))
   clear i10 l10 ho11 hv11 hg11
   have o1 := HC11.out.c1
   have of1 := HC11.out.fz 1
   have lo := HC11.out.lt
   have d0 := (HG.out.below HB511.out).d.c0
   have d1 := (HG.out.below HB511.out).d.c1
   have i0 := (HG.out.below HB511.out).i.cell
   have dl := (HG.out.below HB511.out).d.lt
   have il := (HG.out.below HB511.out).i.lt
   have n1 : ¬ ob = bx := by have := HS5.out; have := HG.out.d.lt; omega
   have n2 : ¬ ob = bx + 1 := by have := HS5.out; have := HG.out.i.lt; omega
   have n3 : ¬ bx = ob := by omega
   have n4 : ¬ bx + 1 = ob := by omega
   go_wp2_with fail
   refine gen_calls fun w12 hw12 => ?_
   have HC12 := Lib.hid (show DeskCell w12 ob (.slice (some ⟨g, 0, none⟩) (m + q) ca6) (.slice B11 (D.ks.filter fun y => !ofC id y).length cb11) from by rw [hw12]; exact HC11.out.set1 _)
   have HN12 := Lib.hid (show DeskN ob w12 w5.heap.size (.slice (some ⟨g, 0, none⟩) (m + q) ca6) (.slice B11 (D.ks.filter fun y => !ofC id y).length cb11) (lv0 D id) from by rw [hw12]; unfold lv0 outC; rw [HF.out, Int.toNat_natCast]; exact HN11.out.set 1 _)
   have HB512 := Lib.hid (show Below w5.heap.size w5 w12 from by rw [hw12]; exact below_set HB511.out ⟨ob, 1, none⟩ _ HS5.out)
   clear hw12 o1 of1 lo d0 d1 i0 dl il
   refine (unseen_any _ id D w12 (HG.out.below HB512.out).o.read (by have := HS.out.lk; omega)).mono ?_
   rintro e w13 ⟨v13, rfl, ho13, hb13⟩
   obtain ⟨AU, cU, rfl, hU⟩ := ho13.toP
   have HU := Lib.hid (show ElP EK (fun b => b ≠ ob) w13 AU cU (unseenL D.ks id) from hU.mono fun b _ h => by have := h.2; have := HC12.out.lt; omega)
   have HC13 := Lib.hid (HC12.out.below hb13)
   have HN13 := Lib.hid (HN12.out.below hb13)
   have HB513 := Lib.hid (below_trans HB512.out hb13)
   have HUL := Lib.hid (show (unseenL D.ks id).length ≤ D.ks.length from List.length_filter_le _ _)
   clear ho13 hb13 hU
   have HUS := Lib.hid HY.out.lk
   generalize hU : unseenL D.ks id = U at *
   have HUE := Lib.hid hU
   clear hU
   go_wp2_with fail
   go_loopw [47] (fun i wr => ∃ (k : Nat) (O : DeskD) (uv xv : Value), k ≤ U.length ∧ i = .int .i64 k ∧ LvI D id k O ∧ Below w5.heap.size w5 wr ∧ DeskCell wr ob uv xv ∧ DeskN ob wr w5.heap.size uv xv O ∧ ElP EK (fun b => b ≠ ob) wr AU cU U) (fun i _ => U.length - (intOf i).toNat)
   case atStart => exact ⟨0, lv0 D id, _, _, Nat.zero_le _, rfl, LvI.start HS.out, HB513.out, HC13.out, HN13.out, HU.out⟩
   case round =>
    obtain ⟨k, O, uv, xv, hk, rfl, hI, hbr, hcr, hnr, hur⟩ := hrel
    have HI := Lib.hid hI
    have HBR := Lib.hid hbr
    have HCR := Lib.hid hcr
    have HNR := Lib.hid hnr
    have HUR := Lib.hid hur
    obtain ⟨uA, uc, xA, xc, rfl, rfl⟩ := hnr.o.forms
    clear hI hbr hcr hnr hur
    by_cases hlt : k < U.length
    ·
     obtain ⟨kb, ko, rfl, hbl, hko, c0, c1, c2, c3, c4⟩ := HUR.out.case hlt
     have hk0 : (0 : Int) ≤ (k : Int) := by omega
     have hkl : (k : Int) < (U.length : Int) := by omega
     have hkD : k ≤ 256 := by have := HUL.out; have := HUS.out; omega
     have HSO := Lib.hid (HI.out.small HS.out (by have := HUS.out; omega))
     obtain ⟨c, hcd⟩ : ∃ c, c = kAt U k := ⟨_, rfl⟩
     have HCD := Lib.hid (show c = kAt (unseenL D.ks id) k from by rw [HUE.out]; exact hcd)
     have HRS := Lib.hid (show c.r.size ≤ maxLen from by
      have hm := kAt_in (K := unseenL D.ks id) (k := k) (by rw [HUE.out]; exact hlt)
      rw [← HCD.out] at hm
      obtain ⟨i, hi, e⟩ := kAt_of (List.mem_filter.1 hm).1
      rw [← e]; exact (HS.out.ca i hi).1)
     rw [← hcd] at c0 c1 c2 c3 c4
     clear hcd
     go_upto_region 13 with fail
     refine gen_world fun w14 hw14 => ?_
     have HB14 := Lib.hid (show Below wr.heap.size wr w14 from by rw [hw14]; exact below_alloc _ _)
     have HCC := Lib.hid (show CaseC w14 wr.heap.size c from by rw [hw14]; exact CaseC.new c rfl)
     have HOB14 := Lib.hid (HCR.out.below HB14.out)
     have HN14 := Lib.hid (HNR.out.below HB14.out)
     clear hw14 c0 c1 c2 c3 c4
     have HLA := Lib.hid (fun (W : World) (hg : w14.grownBy W none) => last_any (.agg #[.slice uA O.cs.length uc, .slice xA O.ks.length xc]) O W (HN14.out.o.below (below_none hg)).read (by have := HSO.out.lk; omega))
     have HGV := Lib.hid (fun (W : World) (hg : w14.grownBy W none) => give_any (.agg #[.slice uA O.cs.length uc, .slice xA O.ks.length xc]) c.r c.o (mxI c.t (lastT O.ks)) O W (HN14.out.o.below (below_none hg)).read HSO.out HRS.out)
     refine wp_region_J2 (GI (R := fun _ _ => True) [Pr.eq (.agg #[.slice uA O.cs.length uc, .slice xA O.ks.length xc]), Pr.eq (.pointer (some ⟨wr.heap.size, 1, none⟩)), Pr.eq (.string c.r), Pr.eq (.pointer (some ⟨wr.heap.size, 2, none⟩)), Pr.eq (.string c.o), Pr.eq (.pointer (some ⟨wr.heap.size, 3, none⟩)), Pr.eq (.int .i64 c.t), Pr.eq (.agg #[.slice uA O.cs.length uc, .slice xA O.ks.length xc]), Pr.eq (.int .i64 (lastT O.ks)), Pr.eq (.int .i64 (mxI c.t (lastT O.ks))), Pr.any, Pr.any, Pr.any, Pr.eq (.int .i64 (giveI O c.r c.o (mxI c.t (lastT O.ks)))), Pr.eq (.int .i64 (giveE O c.r c.o (mxI c.t (lastT O.ks)))), Pr.any, Pr.any, Pr.eq (.int .i64 (giveI O c.r c.o (mxI c.t (lastT O.ks)))), Pr.eq (.int .i64 (giveE O c.r c.o (mxI c.t (lastT O.ks))))] (DvJ w14 none 10 11 12 15 16 (lvF O c) (giveD O c.r c.o (mxI c.t (lastT O.ks))))) (by kernel_rfl) (by kernel_rfl) (by kernel_rfl) ?_ ?_ ?_
     case refine_1 => exact fun V => GI.start (DvJ.start (fun _ e => by cases e) V)
     case refine_2 =>
      refine .cons (fun V Ld a W hLi hpre hR hI KK hK => ?_) ?_
      ·
       have o6 := (hR.old 6 (by kernel_rfl)).trans (show _ = Value.pointer (some ⟨ob, 0, none⟩) from rfl)
       have hc := HOB14.out.keep (hI.st.b.block _ HOB14.out.lt (by simp))
       exact J_load rfl _ (.tmp 6) rfl (by rw [o6]; exact ld_desk hc) (hK _ _ (hI.put0 0 rfl rfl (hI.st.mv _ (by decide) (Below.refl _ _))))
      refine .cons (fun V Ld a W hLi hpre hR hI KK hK => ?_) ?_
      ·
       have o9 := (hR.old 9 (by kernel_rfl)).trans (show _ = Value.pointer (some ⟨wr.heap.size, 0, none⟩) from rfl)
       exact J_fieldAddr rfl _ (.tmp 9) 1 rfl (by rw [o9]; go_simp) (hK _ _ (hI.put0 1 rfl rfl (hI.st.mv _ (by decide) (Below.refl _ _))))
      refine .cons (fun V Ld a W hLi hpre hR hI KK hK => ?_) ?_
      ·
       have f1 := hI.ef hR hpre 1 rfl rfl rfl (by kernel_rfl)
       have hc := HCC.out.keep' (hI.st.b.block _ HCC.out.lt (by simp))
       have c1 := hc.c1
       have c2 := hc.c2
       have c3 := hc.c3
       exact J_load rfl _ (.tmp 53) rfl (by rw [f1]; go_simp) (hK _ _ (hI.put0 2 rfl rfl (hI.st.mv _ (by decide) (Below.refl _ _))))
      refine .cons (fun V Ld a W hLi hpre hR hI KK hK => ?_) ?_
      ·
       have o9 := (hR.old 9 (by kernel_rfl)).trans (show _ = Value.pointer (some ⟨wr.heap.size, 0, none⟩) from rfl)
       exact J_fieldAddr rfl _ (.tmp 9) 2 rfl (by rw [o9]; go_simp) (hK _ _ (hI.put0 3 rfl rfl (hI.st.mv _ (by decide) (Below.refl _ _))))
      refine .cons (fun V Ld a W hLi hpre hR hI KK hK => ?_) ?_
      ·
       have f3 := hI.ef hR hpre 3 rfl rfl rfl (by kernel_rfl)
       have hc := HCC.out.keep' (hI.st.b.block _ HCC.out.lt (by simp))
       have c1 := hc.c1
       have c2 := hc.c2
       have c3 := hc.c3
       exact J_load rfl _ (.tmp 55) rfl (by rw [f3]; go_simp) (hK _ _ (hI.put0 4 rfl rfl (hI.st.mv _ (by decide) (Below.refl _ _))))
      refine .cons (fun V Ld a W hLi hpre hR hI KK hK => ?_) ?_
      ·
       have o9 := (hR.old 9 (by kernel_rfl)).trans (show _ = Value.pointer (some ⟨wr.heap.size, 0, none⟩) from rfl)
       exact J_fieldAddr rfl _ (.tmp 9) 3 rfl (by rw [o9]; go_simp) (hK _ _ (hI.put0 5 rfl rfl (hI.st.mv _ (by decide) (Below.refl _ _))))
      refine .cons (fun V Ld a W hLi hpre hR hI KK hK => ?_) ?_
      ·
       have f5 := hI.ef hR hpre 5 rfl rfl rfl (by kernel_rfl)
       have hc := HCC.out.keep' (hI.st.b.block _ HCC.out.lt (by simp))
       have c1 := hc.c1
       have c2 := hc.c2
       have c3 := hc.c3
       exact J_load rfl _ (.tmp 57) rfl (by rw [f5]; go_simp) (hK _ _ (hI.put0 6 rfl rfl (hI.st.mv _ (by decide) (Below.refl _ _))))
      refine .cons (fun V Ld a W hLi hpre hR hI KK hK => ?_) ?_
      ·
       have o6 := (hR.old 6 (by kernel_rfl)).trans (show _ = Value.pointer (some ⟨ob, 0, none⟩) from rfl)
       have hc := HOB14.out.keep (hI.st.b.block _ HOB14.out.lt (by simp))
       exact J_load rfl _ (.tmp 6) rfl (by rw [o6]; exact ld_desk hc) (hK _ _ (hI.put0 7 rfl rfl (hI.st.mv _ (by decide) (Below.refl _ _))))
      refine .cons (fun V Ld a W hLi hpre hR hI KK hK => ?_) ?_
      ·
       have f7 := hI.ef hR hpre 7 rfl rfl rfl (by kernel_rfl)
       refine J_call rfl _ _ _ rfl enter_last (by simp only [List.map_toArray, List.map_cons, List.map_nil, f7]) (HLA.out W hI.st.b) ?_
       rintro e w' ⟨rfl, hb⟩
       exact ⟨_, rfl, hK _ _ (hI.put trivial 8 rfl rfl (hI.st.mv 8 (by decide) hb))⟩
      refine .cons (fun V Ld a W hLi hpre hR hI KK hK => ?_) ?_
      ·
       have f6 := hI.ef hR hpre 6 rfl rfl rfl (by kernel_rfl)
       have f8 := hI.ef hR hpre 8 rfl rfl rfl (by kernel_rfl)
       exact G_bmax rfl (.tmp 58) (.tmp 60) _ _ rfl (by rw [f6, f8]; exact max_run _ _ _ _) (hK _ _ (hI.put0 9 rfl rfl (hI.st.mv _ (by decide) (Below.refl _ _))))
      refine .cons (fun V Ld a W hLi hpre hR hI KK hK => ?_) ?_
      ·
       have f0 := hI.ef hR hpre 0 rfl rfl rfl (by kernel_rfl)
       have f2 := hI.ef hR hpre 2 rfl rfl rfl (by kernel_rfl)
       have f4 := hI.ef hR hpre 4 rfl rfl rfl (by kernel_rfl)
       have f9 := hI.ef hR hpre 9 rfl rfl rfl (by kernel_rfl)
       refine J_call rfl _ _ _ rfl enter_give (by simp only [List.map_toArray, List.map_cons, List.map_nil, f0, f2, f4, f9]) (HGV.out W hI.st.b) ?_
       rintro e w' ⟨u, x, rfl, ho, hb⟩
       exact ⟨_, rfl, hK _ _ (hI.put trivial 10 rfl trivial (hI.st.oc (F := lvF O c) (by decide) hLi hb ho))⟩
      refine .cons (fun V Ld a W hLi hpre hR hI KK hK => ?_) ?_
      ·
       have p10 := pm hpre 10 (by kernel_rfl)
       exact G_move rfl (.tmp 62) rfl (hR.ev 10 rfl rfl p10) (hK _ _ (hI.put0 11 rfl trivial (hI.st.om (by decide) hLi p10 rfl)))
      refine .cons (fun V Ld a W hLi hpre hR hI KK hK => ?_) ?_
      ·
       have p11 := pm hpre 11 (by kernel_rfl)
       obtain ⟨q10, q11⟩ := hI.st.em p11
       obtain ⟨u, x, eq, -⟩ := hI.st.val q10
       exact J_extract rfl (.tmp 51) 0 rfl ((hR.ev 11 rfl rfl p11).trans (q11.trans eq)) rfl (hK _ _ (hI.put0 12 rfl trivial (hI.st.oe (by decide) hLi p11 (fun u' x' e' => lvF_agg (lvF_inj (eq.symm.trans (q11.symm.trans e')))))))
      refine .cons (fun V Ld a W hLi hpre hR hI KK hK => ?_) ?_
      ·
       have p11 := pm hpre 11 (by kernel_rfl)
       obtain ⟨q10, q11⟩ := hI.st.em p11
       obtain ⟨u, x, eq, -⟩ := hI.st.val q10
       exact J_extract rfl (.tmp 51) 1 rfl ((hR.ev 11 rfl rfl p11).trans (q11.trans eq)) rfl (hK _ _ (hI.put0 13 rfl rfl (hI.st.mv _ (by decide) (Below.refl _ _))))
      refine .cons (fun V Ld a W hLi hpre hR hI KK hK => ?_) ?_
      ·
       have p11 := pm hpre 11 (by kernel_rfl)
       obtain ⟨q10, q11⟩ := hI.st.em p11
       obtain ⟨u, x, eq, -⟩ := hI.st.val q10
       exact J_extract rfl (.tmp 51) 2 rfl ((hR.ev 11 rfl rfl p11).trans (q11.trans eq)) rfl (hK _ _ (hI.put0 14 rfl rfl (hI.st.mv _ (by decide) (Below.refl _ _))))
      refine .cons (fun V Ld a W hLi hpre hR hI KK hK => ?_) ?_
      ·
       exact J_alloc rfl _ rfl (al_desk W) (hK _ _ (hI.put trivial 15 rfl trivial (hI.st.oa (by decide) hLi)))
      refine .cons (fun V Ld a W hLi hpre hR hI KK hK => ?_) ?_
      ·
       have p15 := pm hpre 15 (by kernel_rfl)
       have p12 := pm hpre 12 (by kernel_rfl)
       obtain ⟨w', hr, hn⟩ := hI.st.os (by decide) hLi p12 p15
       exact J_store rfl _ (.tmp 10) (.tmp 63) rfl (by rw [hR.ev 15 rfl rfl p15, hR.ev 12 rfl rfl p12]; exact hr) (hK _ _ (hI.put trivial 16 rfl trivial (hn _)))
      refine .cons (fun V Ld a W hLi hpre hR hI KK hK => ?_) ?_
      ·
       have f13 := hI.ef hR hpre 13 rfl rfl rfl (by kernel_rfl)
       exact G_assign rfl (.tmp 64) rfl f13 (hK _ _ (hI.put0 17 rfl rfl (hI.st.mv _ (by decide) (Below.refl _ _))))
      refine .cons (fun V Ld a W hLi hpre hR hI KK hK => ?_) trivial
      ·
       have f14 := hI.ef hR hpre 14 rfl rfl rfl (by kernel_rfl)
       exact G_assign rfl (.tmp 65) rfl f14 (hK _ _ (hI.put0 18 rfl rfl (hI.st.mv _ (by decide) (Below.refl _ _))))
     case refine_3 =>
      intro V Ld w15 hLd hI
      have e17 : V 17 = _ := hI.val 17 _ rfl (hLd 17 (by decide))
      have e18 : V 18 = _ := hI.val 18 _ rfl (hLd 18 (by decide))
      obtain ⟨nb, u15, x15, e15, hnb, hnl, -, hcell, hdo⟩ := hI.st.fin (hLd 16 (by decide))
      have hb15 := below_none hI.st.b
      clear hI hLd
      simp only [finL, putL, Act.put, Nat.reduceAdd]
      rw [e15, e17, e18]
      clear e15 e17 e18
      have HBW := Lib.hid (below_trans HB14.out hb15)
      have hs14 : wr.heap.size ≤ w14.heap.size := HB14.out.size
      have hob : ob < wr.heap.size := HCR.out.lt
      have HN15 := Lib.hid (DeskN.of_lo (N := ob) hdo (by omega))
      have HNC := Lib.hid hcell
      have HO15 := Lib.hid (HOB14.out.below hb15)
      obtain ⟨A15, ca15, B15, cb15, rfl, rfl⟩ := hdo.forms
      have HBD := Lib.hid (show Below w5.heap.size w5 w15 from HBR.out.trans (HBW.out.mono HBR.out.size))
      clear hcell hdo hb15
      generalize V 0 = v0, V 1 = v1
      generalize V 2 = v2, V 3 = v3
      generalize V 4 = v4, V 5 = v5
      generalize V 6 = v6, V 7 = v7
      generalize V 8 = v8, V 9 = v9
      generalize V 10 = v10, V 11 = v11
      generalize V 12 = v12, V 13 = v13, V 14 = v14
      clear V
      simp only [List.setIfInBounds_toArray, List.set_cons_succ, List.set_cons_zero]
      have HGE := Lib.hid (show giveE O c.r c.o (lvT O c) = giveE O c.r c.o (mxI c.t (lastT O.ks)) from rfl)
      have HGI := Lib.hid (show giveD O c.r c.o (lvT O c) = giveD O c.r c.o (mxI c.t (lastT O.ks)) from rfl)
      generalize giveE O c.r c.o (mxI c.t (lastT O.ks)) = er at *
      generalize giveI O c.r c.o (mxI c.t (lastT O.ks)) = ei at *
      by_cases he : er = 0
      ·
       have HN := Lib.hid (show LvI D id (k + 1) (giveD O c.r c.o (mxI c.t (lastT O.ks))) from by
        have := HI.out.step HS.out (k := k) (by rw [HUE.out]; exact hlt) (by rw [← HCD.out, HGE.out]; exact he)
        rw [← HCD.out, HGI.out] at this
        exact this)
       subst he
       have n0 := HNC.out.c0
       have n1' := HNC.out.c1
       have o0 := HO15.out.c0
       have o1 := HO15.out.c1
       have of0 := HO15.out.fz 0
       have of1 := HO15.out.fz 1
       have ol := HO15.out.lt
       go_wp2_with fail
       go_roundw
       case rel =>
        refine ⟨k + 1, _, _, _, by omega, by go_num, HN.out, below_set (below_set HBD.out ⟨ob, 0, none⟩ _ HS5.out) ⟨ob, 1, none⟩ _ HS5.out, (HO15.out.set0 _).set1 _, ((HN15.out.set 0 _).set 1 _).lower (by have := HBR.out.size; omega), ?_⟩
        exact (HUR.out.below HBW.out).keep (Kpt.trans (Kpt.set _ _ _ (fun b hb => hb)) (Kpt.set _ _ _ (fun b hb => hb)))
       case measure => simp [intOf]; omega
      ·
       have HE := Lib.hid (show leaveE D id = er ∧ leaveD D id = D from HI.out.bad HV.out (by have := HF.out; omega) (k := k) (by rw [HUE.out]; exact hlt) (by rw [← HCD.out, HGE.out]) he)
       have hez : (er == 0) = false := beq_eq_false_iff_ne.2 he
       have HGK := Lib.hid (HG.out.below HBD.out)
       have d0 := HGK.out.d.c0
       have d1 := HGK.out.d.c1
       have z0 := HGK.out.z.c0
       have z1 := HGK.out.z.c1
       have zf0 := HGK.out.z.fz 0
       have zf1 := HGK.out.z.fz 1
       have dl := HGK.out.d.lt
       have zl := HGK.out.z.lt
       clear he
       go_wp2_with fail
       refine bodyPost_ret (results_desk2 rfl _ _ (bx + 1 + 1) rfl (HGK.out.cell _ _)) rfl ?_
       exact HGK.out.ret HBX.out.symm HGK.out.o (by omega) HE.out.1 HE.out.2
    ·
     have HE := Lib.hid (show leaveE D id = 0 ∧ leaveD D id = O from HI.out.done HV.out (by have := HF.out; omega) (by rw [HUE.out]; omega))
     have hkl : ¬ (k : Int) < (U.length : Int) := by omega
     have HGK := Lib.hid (HG.out.below HBR.out)
     have o0 := HCR.out.c0
     have o1 := HCR.out.c1
     have ol := HCR.out.lt
     have z0 := HGK.out.z.c0
     have z1 := HGK.out.z.c1
     have zf0 := HGK.out.z.fz 0
     have zf1 := HGK.out.z.fz 1
     have zl := HGK.out.z.lt
     go_wp2_with fail
     refine bodyPost_ret (results_desk2 rfl _ _ (bx + 1 + 1) rfl (HGK.out.cell _ _)) rfl ?_
     exact HGK.out.ret HBX.out.symm HNR.out.o (by have := HG.out.z.lt; omega) HE.out.1 HE.out.2
 ·
  have hv : chkE D = 1 := by unfold chkE; rw [if_neg hc]
  rw [hv]
  have HE := Lib.hid (show leaveE D id = 1 ∧ leaveD D id = D from by
   have h1 : leaveE D id = 1 := by unfold leaveE; rw [hv]; rfl
   exact ⟨h1, by unfold leaveD; rw [h1]; rfl⟩)
  clear hc hv
  go_wp2_with fail
  refine bodyPost_ret (results_desk2 rfl _ _ (bx + 1 + 1) rfl (HG.out.cell _ _)) rfl ?_
  exact HG.out.ret HBX.out.symm HG.out.o (by omega) HE.out.1 HE.out.2
end Go.Proofs.Ytjckpammcgeloaa
namespace Go.Proofs.Ytjckpammcgeloaa
open Go.RowKit

/-- append of elements that lie at an address. -/
theorem app_run {α : Type} (E : El α) {t ty : TypeId} {z : Value} {bytes : Nat} (ht : Try.prog.underlying t = some (.slice ty)) (hinfo : (Try.prog.info? ty).map (fun i => (i.zero, i.size, i.bytes)) = some (some z, E.n, bytes)) (hzs : z.cells.size = E.n)
    {base : Nat} {w : World} {v : Value} {S T : List α} (hown : ElOwn E ty w base v S) (ad : Addr) (m c : Nat) (hm : m = T.length) (hT : ∀ j u, (E.flat T)[j]? = some u → w.cell? (ad.add j) = some u) (hl : S.length + T.length ≤ 1000000) (hb : bytes ≤ 1000) (hbase : base ≤ w.heap.size) (t' : TypeId) :
    ∃ v' w', (Builtin.append_ #[t, t] t' #[v, .slice (some ad) m c]).run Try.prog w = .ok v' w' ∧ ElOwn E ty w' base v' (S ++ T) ∧ w.grownBy w' v.ownBlock ∧ (v'.ownBlock = v.ownBlock ∨ v'.ownBlock = some w.heap.size) := by
  subst hm
  obtain ⟨i0, hi, hz0, hz1, hz2⟩ := info_parts hinfo
  have hbb : (S.length + T.length) * bytes ≤ 1000000 * 1000 := Nat.mul_le_mul hl hb
  obtain ⟨v', w', h1, h2, h3, -, h4⟩ := run_append_own_at (P := Try.prog) w base t t' ty i0 z E.n bytes ht hi hz0 hz1 hz2 hzs E.pos v S.length (E.flat S) hown ad T.length c (E.flat T) (E.flat_len T) hT (E.flat_one T) (by unfold maxLen; omega) (by omega) hbase
  refine ⟨v', w', h1, ?_, h3, h4⟩
  unfold ElOwn; rw [List.length_append, E.flat_append]; exact h2
/-- Elements of a part of a row. -/
theorem part_news {α : Type} {E : El α} {w : World} {g : Nat} {L : List α} (h : ElAt E w (some ⟨g, 0, none⟩) L) (i : Nat) {T : List α} (hT : ∀ k y, T[k]? = some y → L[i + k]? = some y) : ∀ j u, (E.flat T)[j]? = some u → w.cell? ((⟨g, i * E.n, none⟩ : Addr).add j) = some u := by
  refine ElAt.news (L := T) (fun k y hk => ?_)
  obtain ⟨b, off, e, hb, hc⟩ := h (i + k) y (hT k y hk)
  injection e with e
  injection e with e1 e2
  subst e1; subst e2
  refine ⟨_, _, rfl, hb, fun j hj => ?_⟩
  have := hc j hj
  rw [show 0 + (i + k) * E.n + j = i * E.n + k * E.n + j by rw [Nat.add_mul]; omega] at this
  exact this
theorem DeskN.push {N base : Nat} {w w' : World} {u v : Value} {D : DeskD} {K' : List CaseD} {g n cap : Nat} (h : DeskN N w base u v D) (hN : N < w.heap.size) (ho : ElOwn EK 37 w' base (.slice (some ⟨g, 0, none⟩) n cap) K') (hg : w.grownBy w' v.ownBlock) (hor : v.ownBlock = some g ∨ w.heap.size ≤ g) : DeskN N w' base u (.slice (some ⟨g, 0, none⟩) n cap) ⟨D.cs, K'⟩ := by
  obtain ⟨X, h1, h2⟩ := h.cs
  have hu : ∀ b, u.ownBlock = some b → b < w.heap.size ∧ v.ownBlock ≠ some b := fun b hb => ⟨(World.ownsRow.lt h1 b hb).2, h.ne b hb⟩
  refine ⟨⟨X, h1.kept (fun k hk => hg.block k (hu k hk).1 (fun e => (hu k hk).2 e.symm)), ?_⟩, ho, fun b hb e => ?_, h.nu, fun e => ?_⟩
  · have q := (h2.mono (Q := fun b => base ≤ b ∧ u.ownBlock ≠ some b ∧ v.ownBlock ≠ some b ∧ b ≠ N ∧ g ≠ b) (fun b hl hb => ⟨hb.1, hb.2.1, hb.2.2.1, hb.2.2.2, fun e => by
      rcases hor with h0 | h0
      · exact hb.2.2.1 (by rw [h0, e])
      · omega⟩)).keep (w' := w') (Kpt.grown hg (fun b hb => hb.2.2.1))
    exact q.mono (fun b _ hb => ⟨hb.1, hb.2.1, fun e => hb.2.2.2.2 (by injection e), hb.2.2.2.1⟩)
  · have e : some g = some b := e
    injection e with e
    rcases hor with h0 | h0
    · exact (hu b hb).2 (by rw [h0, e])
    · have := (hu b hb).1; omega
  · have e : some g = some N := e
    injection e with e
    rcases hor with h0 | h0
    · exact h.nv (by rw [h0, e])
    · omega
/-! ### Three operations that turn the world, one behind the other -/
structure ChT (z i1 i2 i3 : Nat) (W0 W1 W2 W3 : World) (L : Nat → Bool) (w : World) : Prop where
  cz : L i2 = true → L z = true
  c2 : L i2 = true → L i1 = true
  c3 : L i3 = true → L i2 = true
  w0 : L i1 = false → w = W0
  w1 : L i1 = true → L i2 = false → w = W1
  w2 : L i2 = true → L i3 = false → w = W2
  w3 : L i3 = true → w = W3
section
variable {z i1 i2 i3 : Nat} {W0 W1 W2 W3 w : World} {L : Nat → Bool}
theorem ChT.start (z i1 i2 i3 : Nat) (W0 W1 W2 W3 : World) : ChT z i1 i2 i3 W0 W1 W2 W3 (fun _ => false) W0 := ⟨fun e => (by cases e), fun e => (by cases e), fun e => (by cases e), fun _ => rfl, fun e => (by cases e), fun e => (by cases e), fun e => (by cases e)⟩
theorem upd_le (L : Nat → Bool) (i : Nat) {k : Nat} (h : L k = true) : upd L i k = true := upd_keep L i h
theorem ChT.mv (h : ChT z i1 i2 i3 W0 W1 W2 W3 L w) (i : Nat) (hi : i1 ≠ i ∧ i2 ≠ i ∧ i3 ≠ i) : ChT z i1 i2 i3 W0 W1 W2 W3 (upd L i) w := by
  refine ⟨?_, ?_, ?_, ?_, ?_, ?_, ?_⟩
  · rw [upd_other _ hi.2.1]; exact fun e => upd_le _ _ (h.cz e)
  · rw [upd_other _ hi.2.1, upd_other _ hi.1]; exact h.c2
  · rw [upd_other _ hi.2.1, upd_other _ hi.2.2]; exact h.c3
  · rw [upd_other _ hi.1]; exact h.w0
  · rw [upd_other _ hi.2.1, upd_other _ hi.1]; exact h.w1
  · rw [upd_other _ hi.2.1, upd_other _ hi.2.2]; exact h.w2
  · rw [upd_other _ hi.2.2]; exact h.w3
theorem ChT.f2 (h : ChT z i1 i2 i3 W0 W1 W2 W3 L w) (h1 : L i1 = false) : L i2 = false := by
  cases q : L i2 with
  | false => rfl
  | true => have := h.c2 q; rw [h1] at this; cases this
theorem ChT.f3 (h : ChT z i1 i2 i3 W0 W1 W2 W3 L w) (h2 : L i2 = false) : L i3 = false := by
  cases q : L i3 with
  | false => rfl
  | true => have := h.c3 q; rw [h2] at this; cases this
theorem ChT.fz (h : ChT z i1 i2 i3 W0 W1 W2 W3 L w) (hz : L z = false) : L i3 = false := by
  refine h.f3 ?_
  cases q : L i2 with
  | false => rfl
  | true => have := h.cz q; rw [hz] at this; cases this
theorem ChT.s1 (h : ChT z i1 i2 i3 W0 W1 W2 W3 L w) (hn : i1 ≠ i2 ∧ i1 ≠ i3 ∧ i2 ≠ i3) (h1 : L i1 = false) : ChT z i1 i2 i3 W0 W1 W2 W3 (upd L i1) W1 := by
  have h2 := h.f2 h1
  have h3 := h.f3 h2
  refine ⟨?_, ?_, ?_, ?_, ?_, ?_, ?_⟩
  · rw [upd_other _ hn.1.symm, h2]; intro e; cases e
  · rw [upd_same]; exact fun _ => rfl
  · rw [upd_other _ hn.1.symm, upd_other _ hn.2.1.symm]; exact h.c3
  · rw [upd_same]; intro e; cases e
  · exact fun _ _ => rfl
  · rw [upd_other _ hn.1.symm, h2]; intro e; cases e
  · rw [upd_other _ hn.2.1.symm, h3]; intro e; cases e
theorem ChT.s2 (h : ChT z i1 i2 i3 W0 W1 W2 W3 L w) (hn : i1 ≠ i2 ∧ i1 ≠ i3 ∧ i2 ≠ i3) (hz : L z = true) (h1 : L i1 = true) (h2 : L i2 = false) : ChT z i1 i2 i3 W0 W1 W2 W3 (upd L i2) W2 := by
  have h3 := h.f3 h2
  refine ⟨?_, ?_, ?_, ?_, ?_, ?_, ?_⟩
  · exact fun _ => upd_le _ _ hz
  · rw [upd_other _ hn.1]; exact fun _ => h1
  · rw [upd_same]; exact fun _ => rfl
  · rw [upd_other _ hn.1, h1]; intro e; cases e
  · rw [upd_same]; intro _ e; cases e
  · exact fun _ _ => rfl
  · rw [upd_other _ hn.2.2.symm, h3]; intro e; cases e
theorem ChT.s3 (h : ChT z i1 i2 i3 W0 W1 W2 W3 L w) (hn : i1 ≠ i2 ∧ i1 ≠ i3 ∧ i2 ≠ i3) (h2 : L i2 = true) : ChT z i1 i2 i3 W0 W1 W2 W3 (upd L i3) W3 := by
  have h1 := h.c2 h2
  refine ⟨?_, ?_, ?_, ?_, ?_, ?_, ?_⟩
  · exact fun _ => upd_le _ _ (h.cz h2)
  · rw [upd_other _ hn.2.2, upd_other _ hn.2.1]; exact h.c2
  · rw [upd_other _ hn.2.2]; exact fun _ => h2
  · rw [upd_other _ hn.2.1, h1]; intro e; cases e
  · rw [upd_other _ hn.2.2, h2]; intro _ e; cases e
  · rw [upd_same]; intro _ e; cases e
  · exact fun _ => rfl
/-- Ahead of the third. -/
theorem ChT.early (h : ChT z i1 i2 i3 W0 W1 W2 W3 L w) (h3 : L i3 = false) : w = W0 ∨ w = W1 ∨ w = W2 := by
  cases q : L i1 with
  | false => exact .inl (h.w0 q)
  | true =>
    cases r : L i2 with
    | false => exact .inr (.inl (h.w1 q r))
    | true => exact .inr (.inr (h.w2 r h3))
theorem ChT.any_ (h : ChT z i1 i2 i3 W0 W1 W2 W3 L w) : w = W0 ∨ w = W1 ∨ w = W2 ∨ w = W3 := by
  cases q : L i3 with
  | true => exact .inr (.inr (.inr (h.w3 q)))
  | false =>
    rcases h.early q with r | r | r
    · exact .inl r
    · exact .inr (.inl r)
    · exact .inr (.inr (.inl r))
end
/-! ### Two appends, and a variable that is made -/
structure NxJ (W0 : World) (X : List CouV) (m i1 i2 i3 ia is : Nat) (V : Nat → Value) (L : Nat → Bool) (w : World) : Prop where
  b : Below W0.heap.size W0 w
  p2 : L i2 = true → L i1 = true
  p3 : L i3 = true → L i2 = true ∧ V i3 = .agg #[V i2, .slice none 0 0]
  ps : L is = true → L i3 = true ∧ L ia = true
  al : L ia = true → ∃ nb, V ia = .pointer (some ⟨nb, 0, none⟩) ∧ W0.heap.size ≤ nb ∧ nb < w.heap.size ∧ (L is = false → DeskCell w nb (.slice none 0 0) (.slice none 0 0)) ∧ (L i1 = true → L i2 = false → (V i1).ownBlock ≠ some nb) ∧ (L i2 = true → (V i2).ownBlock ≠ some nb) ∧ (L is = true → DeskCell w nb (V i2) (.slice none 0 0))
  o1 : L i1 = true → L i2 = false → ElOwn EC 45 w W0.heap.size (V i1) (X.take m)
  o2 : L i2 = true → ElOwn EC 45 w W0.heap.size (V i2) (X.eraseIdx m)
section
variable {W0 w w' : World} {X : List CouV} {m i1 i2 i3 ia is : Nat} {V : Nat → Value} {L : Nat → Bool}
theorem NxJ.start (V : Nat → Value) : NxJ W0 X m i1 i2 i3 ia is V (fun _ => false) W0.drew :=
  ⟨Below.drew (Below.refl _ _), fun e => (by cases e), fun e => (by cases e), fun e => (by cases e), fun e => (by cases e), fun e => (by cases e), fun e => (by cases e)⟩
theorem NxJ.mv (h : NxJ W0 X m i1 i2 i3 ia is V L w) (i : Nat) (hi : i1 ≠ i ∧ i2 ≠ i ∧ i3 ≠ i ∧ ia ≠ i ∧ is ≠ i) {v : Value} : NxJ W0 X m i1 i2 i3 ia is (updV V i v) (upd L i) w := by
  obtain ⟨h1, h2, h3, h4, h5⟩ := hi
  refine ⟨h.b, ?_, ?_, ?_, ?_, ?_, ?_⟩
  · rw [upd_other _ h1, upd_other _ h2]; exact h.p2
  · rw [upd_other _ h2, upd_other _ h3, updV_other _ _ h2, updV_other _ _ h3]; exact h.p3
  · rw [upd_other _ h3, upd_other _ h4, upd_other _ h5]; exact h.ps
  · rw [upd_other _ h1, upd_other _ h2, upd_other _ h4, upd_other _ h5, updV_other _ _ h1, updV_other _ _ h2, updV_other _ _ h4]; exact h.al
  · rw [upd_other _ h1, upd_other _ h2, updV_other _ _ h1]; exact h.o1
  · rw [upd_other _ h2, updV_other _ _ h2]; exact h.o2
theorem NxJ.n2 (h : NxJ W0 X m i1 i2 i3 ia is V L w) (q : L i1 = false) : L i2 = false := by
  cases e : L i2 with
  | false => rfl
  | true => have := h.p2 e; rw [q] at this; cases this
theorem NxJ.n3 (h : NxJ W0 X m i1 i2 i3 ia is V L w) (q : L i2 = false) : L i3 = false := by
  cases e : L i3 with
  | false => rfl
  | true => have := (h.p3 e).1; rw [q] at this; cases this
theorem NxJ.ns (h : NxJ W0 X m i1 i2 i3 ia is V L w) (q : L i3 = false ∨ L ia = false) : L is = false := by
  cases e : L is with
  | false => rfl
  | true =>
    have := h.ps e
    rcases q with q | q
    · rw [q] at this; cases this.1
    · rw [q] at this; cases this.2
theorem NxJ.s1 (h : NxJ W0 X m i1 i2 i3 ia is V L w) (hn : i1 ≠ i2 ∧ i1 ≠ i3 ∧ i1 ≠ ia ∧ i1 ≠ is) (q : L i1 = false) {v : Value} (ho : ElOwn EC 45 w' W0.heap.size v (X.take m)) (hg : w.grownBy w' none) (hv : v.ownBlock = none ∨ v.ownBlock = some w.heap.size) : NxJ W0 X m i1 i2 i3 ia is (updV V i1 v) (upd L i1) w' := by
  have q2 := h.n2 q
  have q3 := h.n3 q2
  have qs := h.ns (.inl q3)
  obtain ⟨h2, h3, h4, h5⟩ := hn
  have hb := below_none hg
  refine ⟨below_trans h.b (hb.mono (Nat.le_refl _)), ?_, ?_, ?_, ?_, ?_, ?_⟩
  · rw [upd_same]; exact fun _ => rfl
  · rw [upd_other _ h3.symm, q3]; intro e; cases e
  · rw [upd_other _ h5.symm, qs]; intro e; cases e
  · rw [upd_other _ h4.symm, upd_other _ h5.symm, upd_same, upd_other _ h2.symm, updV_other _ _ h4.symm, updV_same]
    intro e
    obtain ⟨nb, r1, r2, r3, r4, -⟩ := h.al e
    refine ⟨nb, r1, r2, Nat.lt_of_lt_of_le r3 hb.size, fun e => (r4 e).below hb, fun _ _ e => ?_, fun e => (by rw [q2] at e; cases e), fun e => (by rw [qs] at e; cases e)⟩
    rcases hv with hv | hv
    · rw [hv] at e; cases e
    · rw [hv] at e; injection e with e; omega
  · rw [updV_same]; exact fun _ _ => ho
  · rw [upd_other _ h2.symm, q2]; intro e; cases e
theorem NxJ.s2 (h : NxJ W0 X m i1 i2 i3 ia is V L w) (hn : i2 ≠ i1 ∧ i2 ≠ i3 ∧ i2 ≠ ia ∧ i2 ≠ is) (q1 : L i1 = true) (q2 : L i2 = false) {v : Value} (ho : ElOwn EC 45 w' W0.heap.size v (X.eraseIdx m)) (hg : w.grownBy w' (V i1).ownBlock) (hv : v.ownBlock = (V i1).ownBlock ∨ v.ownBlock = some w.heap.size) : NxJ W0 X m i1 i2 i3 ia is (updV V i2 v) (upd L i2) w' := by
  have q3 := h.n3 q2
  have qs := h.ns (.inl q3)
  have hown := h.o1 q1 q2
  obtain ⟨h1, h3, h4, h5⟩ := hn
  refine ⟨h.b.trans ((Below.refl W0.heap.size w).grown hg h.b.size (fun j hj => (World.ownsRow.lt hown j hj).1)), ?_, ?_, ?_, ?_, ?_, ?_⟩
  · rw [upd_other _ h1.symm]; exact fun _ => q1
  · rw [upd_other _ h3.symm, q3]; intro e; cases e
  · rw [upd_other _ h5.symm, qs]; intro e; cases e
  · rw [upd_other _ h4.symm, upd_other _ h5.symm, upd_same, upd_other _ h1.symm, updV_other _ _ h4.symm, updV_same, updV_other _ _ h1.symm]
    intro e
    obtain ⟨nb, r1, r2, r3, r4, r5, -⟩ := h.al e
    refine ⟨nb, r1, r2, Nat.lt_of_lt_of_le r3 hg.size, fun e => (r4 e).keep (hg.block nb r3 (fun e => r5 q1 q2 e.symm)), fun _ e => (by cases e), fun _ e => ?_, fun e => (by rw [qs] at e; cases e)⟩
    rcases hv with hv | hv
    · rw [hv] at e; exact r5 q1 q2 e
    · rw [hv] at e; injection e with e; omega
  · rw [upd_same]; intro _ e; cases e
  · rw [updV_same]; exact fun _ => ho
theorem NxJ.s3 (h : NxJ W0 X m i1 i2 i3 ia is V L w) (hn : i3 ≠ i1 ∧ i3 ≠ i2 ∧ i3 ≠ ia ∧ i3 ≠ is) (q2 : L i2 = true) {v : Value} (hv : v = .agg #[V i2, .slice none 0 0]) : NxJ W0 X m i1 i2 i3 ia is (updV V i3 v) (upd L i3) w := by
  obtain ⟨h1, h2, h4, h5⟩ := hn
  refine ⟨h.b, ?_, ?_, ?_, ?_, ?_, ?_⟩
  · rw [upd_other _ h1.symm, upd_other _ h2.symm]; exact h.p2
  · rw [upd_other _ h2.symm, updV_same, updV_other _ _ h2.symm]; exact fun _ => ⟨q2, hv⟩
  · rw [upd_same, upd_other _ h4.symm, upd_other _ h5.symm]; exact fun e => ⟨rfl, (h.ps e).2⟩
  · rw [upd_other _ h1.symm, upd_other _ h2.symm, upd_other _ h4.symm, upd_other _ h5.symm, updV_other _ _ h1.symm, updV_other _ _ h2.symm, updV_other _ _ h4.symm]; exact h.al
  · rw [upd_other _ h1.symm, upd_other _ h2.symm, updV_other _ _ h1.symm]; exact h.o1
  · rw [upd_other _ h2.symm, updV_other _ _ h2.symm]; exact h.o2
theorem NxJ.sa (h : NxJ W0 X m i1 i2 i3 ia is V L w) (hn : ia ≠ i1 ∧ ia ≠ i2 ∧ ia ≠ i3 ∧ ia ≠ is) (q : L ia = false) : NxJ W0 X m i1 i2 i3 ia is (updV V ia (.pointer (some ⟨w.heap.size, 0, none⟩))) (upd L ia) (w.alloc (.cells #[.slice none 0 0, .slice none 0 0] 30)) := by
  have qs := h.ns (.inr q)
  have hb := below_alloc w (.cells #[.slice none 0 0, .slice none 0 0] 30)
  obtain ⟨h1, h2, h3, h5⟩ := hn
  refine ⟨below_trans h.b (hb.mono (Nat.le_refl _)), ?_, ?_, ?_, ?_, ?_, ?_⟩
  · rw [upd_other _ h1.symm, upd_other _ h2.symm]; exact h.p2
  · rw [upd_other _ h2.symm, upd_other _ h3.symm, updV_other _ _ h2.symm, updV_other _ _ h3.symm]; exact h.p3
  · rw [upd_other _ h5.symm, qs]; intro e; cases e
  · rw [upd_other _ h1.symm, upd_other _ h2.symm, upd_other _ h5.symm, updV_other _ _ h1.symm, updV_other _ _ h2.symm, updV_same]
    intro _
    refine ⟨_, rfl, h.b.size, by simp, fun _ => DeskCell.new _ _ rfl, fun e1 r e => ?_, fun e2 e => ?_, fun e => (by rw [qs] at e; cases e)⟩
    · have := (World.ownsRow.lt (h.o1 e1 r) _ e).2; omega
    · have := (World.ownsRow.lt (h.o2 e2) _ e).2; omega
  · rw [upd_other _ h1.symm, upd_other _ h2.symm, updV_other _ _ h1.symm]; exact fun e f => (h.o1 e f).below hb
  · rw [upd_other _ h2.symm, updV_other _ _ h2.symm]; exact fun e => (h.o2 e).below hb
theorem NxJ.ss (h : NxJ W0 X m i1 i2 i3 ia is V L w) (hn : is ≠ i1 ∧ is ≠ i2 ∧ is ≠ i3 ∧ is ≠ ia) (qs : L is = false) (q3 : L i3 = true) (qa : L ia = true) :
    ∃ w', (Instr.storeAt 30 (V ia) (V i3)).run Try.prog w = .ok () w' ∧ ∀ v, NxJ W0 X m i1 i2 i3 ia is (updV V is v) (upd L is) w' := by
  obtain ⟨q2, e3⟩ := h.p3 q3
  obtain ⟨nb, r1, r2, r3, r4, r5, r6, -⟩ := h.al qa
  have hown := h.o2 q2
  obtain ⟨A, c, ev, -⟩ := hown.toP
  rw [r1, e3, ev]
  refine ⟨_, st_desk (r4 qs) A none _ 0 c 0, fun v => ?_⟩
  rw [← ev]
  obtain ⟨h1, h2, h3, h4⟩ := hn
  have hk : ∀ k, k ≠ nb → ((w.setCell ⟨nb, 0, none⟩ (V i2)).setCell ⟨nb, 1, none⟩ (.slice none 0 0)).heap[k]? = w.heap[k]? := fun k hk => (Below.heap_setCell _ _ _ k hk).trans (Below.heap_setCell _ _ _ k hk)
  refine ⟨below_set (below_set h.b ⟨nb, 0, none⟩ _ r2) ⟨nb, 1, none⟩ _ r2, ?_, ?_, ?_, ?_, ?_, ?_⟩
  · rw [upd_other _ h1.symm, upd_other _ h2.symm]; exact h.p2
  · rw [upd_other _ h2.symm, upd_other _ h3.symm, updV_other _ _ h2.symm, updV_other _ _ h3.symm]; exact h.p3
  · rw [upd_other _ h3.symm, upd_other _ h4.symm]; exact fun _ => ⟨q3, qa⟩
  · rw [upd_other _ h1.symm, upd_other _ h2.symm, upd_other _ h4.symm, upd_same, updV_other _ _ h1.symm, updV_other _ _ h2.symm, updV_other _ _ h4.symm]
    intro _
    exact ⟨nb, r1, r2, by simpa [World.setCell] using r3, fun e => (by cases e), r5, r6, fun _ => ((r4 qs).set0 _).set1 _⟩
  · rw [upd_other _ h2.symm, q2]; intro _ e; cases e
  · rw [upd_other _ h2.symm, updV_other _ _ h2.symm]
    exact fun _ => hown.kept (fun k hk2 => hk k (fun e => r6 q2 (by rw [hk2, e])))
theorem NxJ.fin (h : NxJ W0 X m i1 i2 i3 ia is V L w) (qs : L is = true) : ∃ nb, V ia = .pointer (some ⟨nb, 0, none⟩) ∧ W0.heap.size ≤ nb ∧ nb < w.heap.size ∧ (V i2).ownBlock ≠ some nb ∧ DeskCell w nb (V i2) (.slice none 0 0) ∧ ElOwn EC 45 w W0.heap.size (V i2) (X.eraseIdx m) := by
  obtain ⟨q3, qa⟩ := h.ps qs
  obtain ⟨q2, -⟩ := h.p3 q3
  obtain ⟨nb, r1, r2, r3, -, -, r6, r7⟩ := h.al qa
  exact ⟨nb, r1, r2, r3, r6 q2, r7 qs, h.o2 q2⟩
end
end Go.Proofs.Ytjckpammcgeloaa
