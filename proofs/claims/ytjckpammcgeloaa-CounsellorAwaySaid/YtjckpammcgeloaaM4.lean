/-
  Desks: the document's check.
  Conditions: those that each theorem names.
-/
import Derived.Test.YtjckpammcgeloaaM3
set_option linter.unusedVariables false
set_option linter.unusedSimpArgs false
namespace Go.Proofs.Ytjckpammcgeloaa
open Go.RowKit

theorem any_at {S : List ByteArray} {T : ByteArray → Bool} {j : Nat} (hj : j < S.length) (h : T (sAt S j) = true) : S.any T = true := by
 rw [List.any_eq_true]
 refine ⟨S[j], List.getElem_mem hj, ?_⟩
 have : sAt S j = S[j] := by simp [sAt, List.getD_eq_getElem?_getD, hj]
 rw [← this]; exact h
theorem any_none {S : List ByteArray} {T : ByteArray → Bool} (h : ∀ j, j < S.length → T (sAt S j) = false) : S.any T = false := by
 rw [List.any_eq_false]
 intro x hx
 obtain ⟨j, hj, rfl⟩ := List.getElem_of_mem hx
 have := h j hj
 have e : sAt S j = S[j] := by simp [sAt, List.getD_eq_getElem?_getD, hj]
 rw [← e, this]; simp
def cousB (C : List CouD) : Bool := cousK C C.length && decide (C.length ≤ 32)
theorem cousB_bad {C : List CouD} {k : Nat} (hk : k < C.length) (h : couOK C k = false) : false = cousB C := by unfold cousB; rw [cousK_bad h _ hk]; rfl
theorem cousB_ok {C : List CouD} (h : cousK C C.length = true) : decide ((C.length : Int) ≤ 32) = cousB C := by
 unfold cousB; rw [h, Bool.true_and, decide_eq_decide]; omega
/-- Few counsellors. -/
def CousS (C : List CouD) : Prop := ∀ k, k < C.length → (cAt C k).o.size ≤ maxLen ∧ (cAt C k).away.length ≤ 1000 ∧ ShortT (cAt C k).away
set_option maxRecDepth 100000 in
set_option maxHeartbeats 8000000 in
theorem refCous_any {P : Nat → Prop} (A : Option Addr) (C : List CouD) (ca : Nat) (w : World) (hC : CousP P w A ca C) (lc : C.length ≤ 1000) (hs : CousS C) :
  Calls Try.prog 38 #[.slice A C.length ca] w (RetB (.bool (cousB C)) w) := by
 have HC := Lib.hid hC
 have HSZ := Lib.hid hs
 clear hC hs
 have HBAD := Lib.hid (fun k (hk : k < C.length) h => cousB_bad (C := C) (k := k) hk h)
 go_enter Try.func38, Try.ntmps38
 go_wp2_with fail
 go_loopw [3] (fun i wr => ∃ k : Nat, k ≤ C.length ∧ i = .int .i64 k ∧ cousK C k = true ∧ Below w.heap.size w wr) (fun i _ => C.length - (intOf i).toNat)
 case atStart => exact ⟨0, Nat.zero_le _, rfl, rfl, Below.refl _ _⟩
 case round =>
  obtain ⟨k, hk, rfl, hpre, hbr⟩ := hrel
  have HK := Lib.hid hpre
  have HBR := Lib.hid hbr
  have HBW := Lib.hid hbr
  clear hpre
  by_cases hlt : k < C.length
  ·
   obtain ⟨b, off, x, rfl, hbl, -, c0, c1, c2, hx⟩ := (HC.out.below hbr).elem hlt
   have hk0 : (0 : Int) ≤ (k : Int) := by omega
   have hkl : (k : Int) < (C.length : Int) := by omega
   clear hbr
   cases q1 : inI (cAt C k).id 1 1048576 with
   | false =>
    have Q1 := Lib.hid q1
    clear q1
    by_cases qa : (cAt C k).id < 1
    ·
     skip
     have QA := Lib.hid qa
     clear qa
     have HV := Lib.hid (HBAD.out _ hlt (cou_1 Q1.out))
     have J1 := Lib.hid (show x.id < (1 : Int) from by rw [hx.id]; exact QA.out)
     clear hx
     go_wp2_with fail
     refine gen_world fun w0 hw0 => ?_
     have hb0 : Below wr.heap.size wr w0 := by rw [hw0]; exact below_alloc _ _
     have VC := Lib.hid (show CouC w0 wr.heap.size x.id x.o (.slice x.A x.n x.c) from by rw [hw0]; exact CouC.new _ _ _ _)
     have LV := Lib.hid (show wr.heap.size < w0.heap.size from by rw [hw0]; simp)
     clear hw0
     refine wp_region_J2 (GI (R := Bl) [Pr.eq (.pointer (some ⟨wr.heap.size, 0, none⟩)), Pr.eq (.int .i64 (x.id)), Pr.eq (.bool true), Pr.eq (.bool true), Pr.eq undef, Pr.eq undef, Pr.eq undef, Pr.eq (.bool true), Pr.eq (.bool true), Pr.eq undef, Pr.eq undef, Pr.eq undef, Pr.eq undef, Pr.eq undef, Pr.eq undef, Pr.eq undef, Pr.eq undef, Pr.eq undef, Pr.eq undef, Pr.eq undef, Pr.eq undef, Pr.eq undef, Pr.eq (.bool true), Pr.eq (.bool true), Pr.eq undef, Pr.eq undef, Pr.eq undef, Pr.eq undef, Pr.eq (.bool true), Pr.eq (.bool true), Pr.eq undef, Pr.eq undef, Pr.eq undef, Pr.eq undef, Pr.eq (.bool true), Pr.eq (.bool true), Pr.eq undef, Pr.eq undef, Pr.eq undef, Pr.eq undef, Pr.eq (.bool true)] (GrS w0)) (by kernel_rfl) (by kernel_rfl) (by kernel_rfl) ?_ ?_ ?_
     case refine_1 => exact fun V => GI.start (GrS.start _ _ _)
     case refine_2 =>
      refine .cons (fun V Ld a W hLi hpre hR hI KK hK => ?_) ?_
      ·
       have o4 := (hR.old 4 (by kernel_rfl)).trans (show _ = Value.pointer (some ⟨wr.heap.size, 0, none⟩) from rfl)
       exact J_fieldAddr rfl _ (.tmp 4) 0 rfl (by rw [o4]; go_simp) (hI.u0 hK rfl)
      refine .cons (fun V Ld a W hLi hpre hR hI KK hK => ?_) ?_
      ·
       have f0 := hI.ef hR hpre 0 rfl rfl rfl (by kernel_rfl)
       have c := (hI.st.bl.cell LV.out).trans VC.out.c0
       exact J_load rfl _ (.tmp 16) rfl (by rw [f0]; go_simp) (hI.u0 hK rfl)
      refine .cons (fun V Ld a W hLi hpre hR hI KK hK => ?_) ?_
      ·
       have f1 := hI.ef hR hpre 1 rfl rfl rfl (by kernel_rfl)
       exact J_binOp rfl .lss _ (.tmp 17) (.const (.int .i64 1)) _ rfl (by rw [f1]; exact bt_lss _ _ _ _ W J1.out) (hI.u0 hK rfl)
      refine .mf 2 rfl rfl rfl rfl rfl (by kernel_rfl) rfl ?_
      refine .un 3 rfl rfl rfl rfl (by kernel_rfl) rfl ?_
      refine .un 3 rfl rfl rfl rfl (by kernel_rfl) rfl ?_
      refine .un 3 rfl rfl rfl rfl (by kernel_rfl) rfl ?_
      refine .cons (fun V Ld a W hLi hpre hR hI KK hK => ?_) ?_
      ·
       have f3 := hI.ef hR hpre 3 rfl rfl rfl (by kernel_rfl)
       exact G_pick rfl (.tmp 19) (.const (.bool true)) (.tmp 22) rfl f3 (show _ = _ from rfl) (hI.u0 hK rfl)
      refine .mf 7 rfl rfl rfl rfl rfl (by kernel_rfl) rfl ?_
      refine .un 8 rfl rfl rfl rfl (by kernel_rfl) rfl ?_
      refine .un 8 rfl rfl rfl rfl (by kernel_rfl) rfl ?_
      refine .un 8 rfl rfl rfl rfl (by kernel_rfl) rfl ?_
      refine .unU 11 rfl rfl rfl rfl (by kernel_rfl) rfl ?_
      refine .unU 11 rfl rfl rfl rfl (by kernel_rfl) rfl ?_
      refine .unU 11 rfl rfl rfl rfl (by kernel_rfl) rfl ?_
      refine .unU 11 rfl rfl rfl rfl (by kernel_rfl) rfl ?_
      refine .unU 11 rfl rfl rfl rfl (by kernel_rfl) rfl ?_
      refine .unU 11 rfl rfl rfl rfl (by kernel_rfl) rfl ?_
      refine .unU 11 rfl rfl rfl rfl (by kernel_rfl) rfl ?_
      refine .unU 11 rfl rfl rfl rfl (by kernel_rfl) rfl ?_
      refine .unU 11 rfl rfl rfl rfl (by kernel_rfl) rfl ?_
      refine .un 8 rfl rfl rfl rfl (by kernel_rfl) rfl ?_
      refine .cons (fun V Ld a W hLi hpre hR hI KK hK => ?_) ?_
      ·
       have f8 := hI.ef hR hpre 8 rfl rfl rfl (by kernel_rfl)
       exact G_pick rfl (.tmp 24) (.const (.bool true)) (.tmp 37) rfl f8 (show _ = _ from rfl) (hI.u0 hK rfl)
      refine .mf 22 rfl rfl rfl rfl rfl (by kernel_rfl) rfl ?_
      refine .un 23 rfl rfl rfl rfl (by kernel_rfl) rfl ?_
      refine .un 23 rfl rfl rfl rfl (by kernel_rfl) rfl ?_
      refine .un 23 rfl rfl rfl rfl (by kernel_rfl) rfl ?_
      refine .un 23 rfl rfl rfl rfl (by kernel_rfl) rfl ?_
      refine .cons (fun V Ld a W hLi hpre hR hI KK hK => ?_) ?_
      ·
       have f23 := hI.ef hR hpre 23 rfl rfl rfl (by kernel_rfl)
       exact G_pick rfl (.tmp 39) (.const (.bool true)) (.tmp 43) rfl f23 (show _ = _ from rfl) (hI.u0 hK rfl)
      refine .mf 28 rfl rfl rfl rfl rfl (by kernel_rfl) rfl ?_
      refine .un 29 rfl rfl rfl rfl (by kernel_rfl) rfl ?_
      refine .un 29 rfl rfl rfl rfl (by kernel_rfl) rfl ?_
      refine .un 29 rfl rfl rfl rfl (by kernel_rfl) rfl ?_
      refine .un 29 rfl rfl rfl rfl (by kernel_rfl) rfl ?_
      refine .cons (fun V Ld a W hLi hpre hR hI KK hK => ?_) ?_
      ·
       have f29 := hI.ef hR hpre 29 rfl rfl rfl (by kernel_rfl)
       exact G_pick rfl (.tmp 45) (.const (.bool true)) (.tmp 49) rfl f29 (show _ = _ from rfl) (hI.u0 hK rfl)
      refine .mf 34 rfl rfl rfl rfl rfl (by kernel_rfl) rfl ?_
      refine .un 35 rfl rfl rfl rfl (by kernel_rfl) rfl ?_
      refine .un 35 rfl rfl rfl rfl (by kernel_rfl) rfl ?_
      refine .un 35 rfl rfl rfl rfl (by kernel_rfl) rfl ?_
      refine .un 35 rfl rfl rfl rfl (by kernel_rfl) rfl ?_
      refine .cons (fun V Ld a W hLi hpre hR hI KK hK => ?_) trivial
      ·
       have f35 := hI.ef hR hpre 35 rfl rfl rfl (by kernel_rfl)
       exact G_pick rfl (.tmp 51) (.const (.bool true)) (.tmp 55) rfl f35 (show _ = _ from rfl) (hI.u0 hK rfl)
     case refine_3 =>
      intro V Ld w9 hLd hI
      have e9 : V 40 = .bool true := hI.val 40 _ rfl (hLd 40 (by decide))
      have hb9 := hI.st.bl
      clear hI hLd
      simp only [finL, putL, Act.put, Nat.reduceAdd]
      rw [e9]
      clear e9
      generalize V 0 = v0, V 1 = v1
      generalize V 2 = v2, V 3 = v3
      generalize V 4 = v4, V 5 = v5
      generalize V 6 = v6, V 7 = v7
      generalize V 8 = v8, V 9 = v9
      generalize V 10 = v10, V 11 = v11
      generalize V 12 = v12, V 13 = v13
      generalize V 14 = v14, V 15 = v15
      generalize V 16 = v16, V 17 = v17
      generalize V 18 = v18, V 19 = v19
      generalize V 20 = v20, V 21 = v21
      generalize V 22 = v22, V 23 = v23
      generalize V 24 = v24, V 25 = v25
      generalize V 26 = v26, V 27 = v27
      generalize V 28 = v28, V 29 = v29
      generalize V 30 = v30, V 31 = v31
      generalize V 32 = v32, V 33 = v33
      generalize V 34 = v34, V 35 = v35
      generalize V 36 = v36, V 37 = v37
      generalize V 38 = v38, V 39 = v39
      clear V
      simp only [List.setIfInBounds_toArray, List.set_cons_succ, List.set_cons_zero]
      go_wp2_with fail
      go_ret
      exact RetB.bool HV.out (below_trans HBW.out (below_trans hb0 hb9))
    ·
     skip
     have QA := Lib.hid (show (1 : Int) ≤ (cAt C k).id by omega)
     clear qa
     have HV := Lib.hid (HBAD.out _ hlt (cou_1 Q1.out))
     have J1a := Lib.hid (show (1 : Int) ≤ x.id from by rw [hx.id]; exact QA.out)
     have J1 := Lib.hid (show (1048576 : Int) < x.id from by rw [hx.id]; have h := inI_no Q1.out; have := QA.out; omega)
     clear hx
     go_wp2_with fail
     refine gen_world fun w0 hw0 => ?_
     have hb0 : Below wr.heap.size wr w0 := by rw [hw0]; exact below_alloc _ _
     have VC := Lib.hid (show CouC w0 wr.heap.size x.id x.o (.slice x.A x.n x.c) from by rw [hw0]; exact CouC.new _ _ _ _)
     have LV := Lib.hid (show wr.heap.size < w0.heap.size from by rw [hw0]; simp)
     clear hw0
     refine wp_region_J2 (GI (R := Bl) [Pr.eq (.pointer (some ⟨wr.heap.size, 0, none⟩)), Pr.eq (.int .i64 (x.id)), Pr.eq (.bool false), Pr.eq (.bool false), Pr.eq (.pointer (some ⟨wr.heap.size, 0, none⟩)), Pr.eq (.int .i64 (x.id)), Pr.eq (.bool true), Pr.eq (.bool true), Pr.eq (.bool true), Pr.eq undef, Pr.eq undef, Pr.eq undef, Pr.eq undef, Pr.eq undef, Pr.eq undef, Pr.eq undef, Pr.eq undef, Pr.eq undef, Pr.eq undef, Pr.eq undef, Pr.eq undef, Pr.eq undef, Pr.eq (.bool true), Pr.eq (.bool true), Pr.eq undef, Pr.eq undef, Pr.eq undef, Pr.eq undef, Pr.eq (.bool true), Pr.eq (.bool true), Pr.eq undef, Pr.eq undef, Pr.eq undef, Pr.eq undef, Pr.eq (.bool true), Pr.eq (.bool true), Pr.eq undef, Pr.eq undef, Pr.eq undef, Pr.eq undef, Pr.eq (.bool true)] (GrS w0)) (by kernel_rfl) (by kernel_rfl) (by kernel_rfl) ?_ ?_ ?_
     case refine_1 => exact fun V => GI.start (GrS.start _ _ _)
     case refine_2 =>
      refine .cons (fun V Ld a W hLi hpre hR hI KK hK => ?_) ?_
      ·
       have o4 := (hR.old 4 (by kernel_rfl)).trans (show _ = Value.pointer (some ⟨wr.heap.size, 0, none⟩) from rfl)
       exact J_fieldAddr rfl _ (.tmp 4) 0 rfl (by rw [o4]; go_simp) (hI.u0 hK rfl)
      refine .cons (fun V Ld a W hLi hpre hR hI KK hK => ?_) ?_
      ·
       have f0 := hI.ef hR hpre 0 rfl rfl rfl (by kernel_rfl)
       have c := (hI.st.bl.cell LV.out).trans VC.out.c0
       exact J_load rfl _ (.tmp 16) rfl (by rw [f0]; go_simp) (hI.u0 hK rfl)
      refine .cons (fun V Ld a W hLi hpre hR hI KK hK => ?_) ?_
      ·
       have f1 := hI.ef hR hpre 1 rfl rfl rfl (by kernel_rfl)
       exact J_binOp rfl .lss _ (.tmp 17) (.const (.int .i64 1)) _ rfl (by rw [f1]; exact bf_lss _ _ _ _ W J1a.out) (hI.u0 hK rfl)
      refine .mf 2 rfl rfl rfl rfl rfl (by kernel_rfl) rfl ?_
      refine .cons (fun V Ld a W hLi hpre hR hI KK hK => ?_) ?_
      ·
       refine G_gw hI hR hpre 3 rfl rfl rfl rfl (by kernel_rfl) ?_
       have o4 := (hR.old 4 (by kernel_rfl)).trans (show _ = Value.pointer (some ⟨wr.heap.size, 0, none⟩) from rfl)
       exact J_fieldAddr rfl _ (.tmp 4) 0 rfl (by rw [o4]; go_simp) (hI.u0 hK rfl)
      refine .cons (fun V Ld a W hLi hpre hR hI KK hK => ?_) ?_
      ·
       refine G_gw hI hR hpre 3 rfl rfl rfl rfl (by kernel_rfl) ?_
       have f4 := hI.ef hR hpre 4 rfl rfl rfl (by kernel_rfl)
       have c := (hI.st.bl.cell LV.out).trans VC.out.c0
       exact J_load rfl _ (.tmp 20) rfl (by rw [f4]; go_simp) (hI.u0 hK rfl)
      refine .cons (fun V Ld a W hLi hpre hR hI KK hK => ?_) ?_
      ·
       refine G_gw hI hR hpre 3 rfl rfl rfl rfl (by kernel_rfl) ?_
       have f5 := hI.ef hR hpre 5 rfl rfl rfl (by kernel_rfl)
       exact J_binOp rfl .gtr _ (.tmp 21) (.const (.int .i64 1048576)) _ rfl (by rw [f5]; exact bt_gtr _ _ _ _ W J1.out) (hI.u0 hK rfl)
      refine .cons (fun V Ld a W hLi hpre hR hI KK hK => ?_) ?_
      ·
       have f3 := hI.ef hR hpre 3 rfl rfl rfl (by kernel_rfl)
       have f6 := hI.ef hR hpre 6 rfl rfl rfl (by kernel_rfl)
       exact G_pick rfl (.tmp 19) (.const (.bool true)) (.tmp 22) rfl f3 (show _ = _ from f6) (hI.u0 hK rfl)
      refine .mf 7 rfl rfl rfl rfl rfl (by kernel_rfl) rfl ?_
      refine .un 8 rfl rfl rfl rfl (by kernel_rfl) rfl ?_
      refine .un 8 rfl rfl rfl rfl (by kernel_rfl) rfl ?_
      refine .un 8 rfl rfl rfl rfl (by kernel_rfl) rfl ?_
      refine .unU 11 rfl rfl rfl rfl (by kernel_rfl) rfl ?_
      refine .unU 11 rfl rfl rfl rfl (by kernel_rfl) rfl ?_
      refine .unU 11 rfl rfl rfl rfl (by kernel_rfl) rfl ?_
      refine .unU 11 rfl rfl rfl rfl (by kernel_rfl) rfl ?_
      refine .unU 11 rfl rfl rfl rfl (by kernel_rfl) rfl ?_
      refine .unU 11 rfl rfl rfl rfl (by kernel_rfl) rfl ?_
      refine .unU 11 rfl rfl rfl rfl (by kernel_rfl) rfl ?_
      refine .unU 11 rfl rfl rfl rfl (by kernel_rfl) rfl ?_
      refine .unU 11 rfl rfl rfl rfl (by kernel_rfl) rfl ?_
      refine .un 8 rfl rfl rfl rfl (by kernel_rfl) rfl ?_
      refine .cons (fun V Ld a W hLi hpre hR hI KK hK => ?_) ?_
      ·
       have f8 := hI.ef hR hpre 8 rfl rfl rfl (by kernel_rfl)
       exact G_pick rfl (.tmp 24) (.const (.bool true)) (.tmp 37) rfl f8 (show _ = _ from rfl) (hI.u0 hK rfl)
      refine .mf 22 rfl rfl rfl rfl rfl (by kernel_rfl) rfl ?_
      refine .un 23 rfl rfl rfl rfl (by kernel_rfl) rfl ?_
      refine .un 23 rfl rfl rfl rfl (by kernel_rfl) rfl ?_
      refine .un 23 rfl rfl rfl rfl (by kernel_rfl) rfl ?_
      refine .un 23 rfl rfl rfl rfl (by kernel_rfl) rfl ?_
      refine .cons (fun V Ld a W hLi hpre hR hI KK hK => ?_) ?_
      ·
       have f23 := hI.ef hR hpre 23 rfl rfl rfl (by kernel_rfl)
       exact G_pick rfl (.tmp 39) (.const (.bool true)) (.tmp 43) rfl f23 (show _ = _ from rfl) (hI.u0 hK rfl)
      refine .mf 28 rfl rfl rfl rfl rfl (by kernel_rfl) rfl ?_
      refine .un 29 rfl rfl rfl rfl (by kernel_rfl) rfl ?_
      refine .un 29 rfl rfl rfl rfl (by kernel_rfl) rfl ?_
      refine .un 29 rfl rfl rfl rfl (by kernel_rfl) rfl ?_
      refine .un 29 rfl rfl rfl rfl (by kernel_rfl) rfl ?_
      refine .cons (fun V Ld a W hLi hpre hR hI KK hK => ?_) ?_
      ·
       have f29 := hI.ef hR hpre 29 rfl rfl rfl (by kernel_rfl)
       exact G_pick rfl (.tmp 45) (.const (.bool true)) (.tmp 49) rfl f29 (show _ = _ from rfl) (hI.u0 hK rfl)
      refine .mf 34 rfl rfl rfl rfl rfl (by kernel_rfl) rfl ?_
      refine .un 35 rfl rfl rfl rfl (by kernel_rfl) rfl ?_
      refine .un 35 rfl rfl rfl rfl (by kernel_rfl) rfl ?_
      refine .un 35 rfl rfl rfl rfl (by kernel_rfl) rfl ?_
      refine .un 35 rfl rfl rfl rfl (by kernel_rfl) rfl ?_
      refine .cons (fun V Ld a W hLi hpre hR hI KK hK => ?_) trivial
      ·
       have f35 := hI.ef hR hpre 35 rfl rfl rfl (by kernel_rfl)
       exact G_pick rfl (.tmp 51) (.const (.bool true)) (.tmp 55) rfl f35 (show _ = _ from rfl) (hI.u0 hK rfl)
     case refine_3 =>
      intro V Ld w9 hLd hI
      have e9 : V 40 = .bool true := hI.val 40 _ rfl (hLd 40 (by decide))
      have hb9 := hI.st.bl
      clear hI hLd
      simp only [finL, putL, Act.put, Nat.reduceAdd]
      rw [e9]
      clear e9
      generalize V 0 = v0, V 1 = v1
      generalize V 2 = v2, V 3 = v3
      generalize V 4 = v4, V 5 = v5
      generalize V 6 = v6, V 7 = v7
      generalize V 8 = v8, V 9 = v9
      generalize V 10 = v10, V 11 = v11
      generalize V 12 = v12, V 13 = v13
      generalize V 14 = v14, V 15 = v15
      generalize V 16 = v16, V 17 = v17
      generalize V 18 = v18, V 19 = v19
      generalize V 20 = v20, V 21 = v21
      generalize V 22 = v22, V 23 = v23
      generalize V 24 = v24, V 25 = v25
      generalize V 26 = v26, V 27 = v27
      generalize V 28 = v28, V 29 = v29
      generalize V 30 = v30, V 31 = v31
      generalize V 32 = v32, V 33 = v33
      generalize V 34 = v34, V 35 = v35
      generalize V 36 = v36, V 37 = v37
      generalize V 38 = v38, V 39 = v39
      clear V
      simp only [List.setIfInBounds_toArray, List.set_cons_succ, List.set_cons_zero]
      go_wp2_with fail
      go_ret
      exact RetB.bool HV.out (below_trans HBW.out (below_trans hb0 hb9))
   | true =>
    have Q1 := Lib.hid q1
    clear q1
    rcases Nat.eq_zero_or_pos k with hz | hz
    ·
     have HZ := Lib.hid hz
     have Z1 := Lib.hid (show (k : Int) ≤ 0 by omega)
     clear hz
     cases q3 : inI ((cAt C k).o.size : Int) 1 32 with
     | false =>
      have Q3 := Lib.hid q3
      clear q3
      by_cases qb : ((cAt C k).o.size : Int) < 1
      ·
       skip
       have QB := Lib.hid qb
       clear qb
       have HV := Lib.hid (HBAD.out _ hlt (cou_3 Q3.out))
       have J1a := Lib.hid (show (1 : Int) ≤ x.id from by rw [hx.id]; exact (inI_of Q1.out).1)
       have J1b := Lib.hid (show x.id ≤ (1048576 : Int) from by rw [hx.id]; exact (inI_of Q1.out).2)
       have J3 := Lib.hid (show (x.o.size : Int) < 1 from by rw [hx.o]; exact QB.out)
       clear hx
       go_wp2_with fail
       refine gen_world fun w0 hw0 => ?_
       have hb0 : Below wr.heap.size wr w0 := by rw [hw0]; exact below_alloc _ _
       have VC := Lib.hid (show CouC w0 wr.heap.size x.id x.o (.slice x.A x.n x.c) from by rw [hw0]; exact CouC.new _ _ _ _)
       have LV := Lib.hid (show wr.heap.size < w0.heap.size from by rw [hw0]; simp)
       clear hw0
       refine wp_region_J2 (GI (R := Bl) [Pr.eq (.pointer (some ⟨wr.heap.size, 0, none⟩)), Pr.eq (.int .i64 (x.id)), Pr.eq (.bool false), Pr.eq (.bool false), Pr.eq (.pointer (some ⟨wr.heap.size, 0, none⟩)), Pr.eq (.int .i64 (x.id)), Pr.eq (.bool false), Pr.eq (.bool false), Pr.eq (.bool false), Pr.eq (.int .i64 ((k : Int))), Pr.eq (.bool false), Pr.eq (.bool false), Pr.eq undef, Pr.eq undef, Pr.eq undef, Pr.eq undef, Pr.eq undef, Pr.eq undef, Pr.eq undef, Pr.eq undef, Pr.eq undef, Pr.eq (.bool false), Pr.eq (.bool false), Pr.eq (.bool false), Pr.eq (.pointer (some ⟨wr.heap.size, 1, none⟩)), Pr.eq (.string (x.o)), Pr.eq (.int .i64 ((x.o.size : Int))), Pr.eq (.bool true), Pr.eq (.bool true), Pr.eq (.bool true), Pr.eq undef, Pr.eq undef, Pr.eq undef, Pr.eq undef, Pr.eq (.bool true), Pr.eq (.bool true), Pr.eq undef, Pr.eq undef, Pr.eq undef, Pr.eq undef, Pr.eq (.bool true)] (GrS w0)) (by kernel_rfl) (by kernel_rfl) (by kernel_rfl) ?_ ?_ ?_
       case refine_1 => exact fun V => GI.start (GrS.start _ _ _)
       case refine_2 =>
        refine .cons (fun V Ld a W hLi hpre hR hI KK hK => ?_) ?_
        ·
         have o4 := (hR.old 4 (by kernel_rfl)).trans (show _ = Value.pointer (some ⟨wr.heap.size, 0, none⟩) from rfl)
         exact J_fieldAddr rfl _ (.tmp 4) 0 rfl (by rw [o4]; go_simp) (hI.u0 hK rfl)
        refine .cons (fun V Ld a W hLi hpre hR hI KK hK => ?_) ?_
        ·
         have f0 := hI.ef hR hpre 0 rfl rfl rfl (by kernel_rfl)
         have c := (hI.st.bl.cell LV.out).trans VC.out.c0
         exact J_load rfl _ (.tmp 16) rfl (by rw [f0]; go_simp) (hI.u0 hK rfl)
        refine .cons (fun V Ld a W hLi hpre hR hI KK hK => ?_) ?_
        ·
         have f1 := hI.ef hR hpre 1 rfl rfl rfl (by kernel_rfl)
         exact J_binOp rfl .lss _ (.tmp 17) (.const (.int .i64 1)) _ rfl (by rw [f1]; exact bf_lss _ _ _ _ W J1a.out) (hI.u0 hK rfl)
        refine .mf 2 rfl rfl rfl rfl rfl (by kernel_rfl) rfl ?_
        refine .cons (fun V Ld a W hLi hpre hR hI KK hK => ?_) ?_
        ·
         refine G_gw hI hR hpre 3 rfl rfl rfl rfl (by kernel_rfl) ?_
         have o4 := (hR.old 4 (by kernel_rfl)).trans (show _ = Value.pointer (some ⟨wr.heap.size, 0, none⟩) from rfl)
         exact J_fieldAddr rfl _ (.tmp 4) 0 rfl (by rw [o4]; go_simp) (hI.u0 hK rfl)
        refine .cons (fun V Ld a W hLi hpre hR hI KK hK => ?_) ?_
        ·
         refine G_gw hI hR hpre 3 rfl rfl rfl rfl (by kernel_rfl) ?_
         have f4 := hI.ef hR hpre 4 rfl rfl rfl (by kernel_rfl)
         have c := (hI.st.bl.cell LV.out).trans VC.out.c0
         exact J_load rfl _ (.tmp 20) rfl (by rw [f4]; go_simp) (hI.u0 hK rfl)
        refine .cons (fun V Ld a W hLi hpre hR hI KK hK => ?_) ?_
        ·
         refine G_gw hI hR hpre 3 rfl rfl rfl rfl (by kernel_rfl) ?_
         have f5 := hI.ef hR hpre 5 rfl rfl rfl (by kernel_rfl)
         exact J_binOp rfl .gtr _ (.tmp 21) (.const (.int .i64 1048576)) _ rfl (by rw [f5]; exact bf_gtr _ _ _ _ W J1b.out) (hI.u0 hK rfl)
        refine .cons (fun V Ld a W hLi hpre hR hI KK hK => ?_) ?_
        ·
         have f3 := hI.ef hR hpre 3 rfl rfl rfl (by kernel_rfl)
         have f6 := hI.ef hR hpre 6 rfl rfl rfl (by kernel_rfl)
         exact G_pick rfl (.tmp 19) (.const (.bool true)) (.tmp 22) rfl f3 (show _ = _ from f6) (hI.u0 hK rfl)
        refine .mf 7 rfl rfl rfl rfl rfl (by kernel_rfl) rfl ?_
        refine .cons (fun V Ld a W hLi hpre hR hI KK hK => ?_) ?_
        ·
         refine G_gw hI hR hpre 8 rfl rfl rfl rfl (by kernel_rfl) ?_
         have o3 := (hR.old 3 (by kernel_rfl)).trans (show _ = Value.int .i64 ((k : Int)) from rfl)
         exact G_move rfl (.tmp 3) rfl o3 (hI.u0 hK rfl)
        refine .cons (fun V Ld a W hLi hpre hR hI KK hK => ?_) ?_
        ·
         refine G_gw hI hR hpre 8 rfl rfl rfl rfl (by kernel_rfl) ?_
         have f9 := hI.ef hR hpre 9 rfl rfl rfl (by kernel_rfl)
         exact J_binOp rfl .gtr _ (.tmp 25) (.const (.int .i64 0)) _ rfl (by rw [f9]; exact bf_gtr _ _ _ _ W Z1.out) (hI.u0 hK rfl)
        refine .cons (fun V Ld a W hLi hpre hR hI KK hK => ?_) ?_
        ·
         refine G_gw hI hR hpre 8 rfl rfl rfl rfl (by kernel_rfl) ?_
         have f10 := hI.ef hR hpre 10 rfl rfl rfl (by kernel_rfl)
         exact G_move rfl (.tmp 26) rfl f10 (hI.u0 hK rfl)
        refine .un 11 rfl rfl rfl rfl (by kernel_rfl) rfl ?_
        refine .un 11 rfl rfl rfl rfl (by kernel_rfl) rfl ?_
        refine .un 11 rfl rfl rfl rfl (by kernel_rfl) rfl ?_
        refine .un 11 rfl rfl rfl rfl (by kernel_rfl) rfl ?_
        refine .un 11 rfl rfl rfl rfl (by kernel_rfl) rfl ?_
        refine .un 11 rfl rfl rfl rfl (by kernel_rfl) rfl ?_
        refine .un 11 rfl rfl rfl rfl (by kernel_rfl) rfl ?_
        refine .un 11 rfl rfl rfl rfl (by kernel_rfl) rfl ?_
        refine .un 11 rfl rfl rfl rfl (by kernel_rfl) rfl ?_
        refine .cons (fun V Ld a W hLi hpre hR hI KK hK => ?_) ?_
        ·
         refine G_gw hI hR hpre 8 rfl rfl rfl rfl (by kernel_rfl) ?_
         have f11 := hI.ef hR hpre 11 rfl rfl rfl (by kernel_rfl)
         exact G_pick rfl (.tmp 27) (.tmp 36) (.const (.bool false)) rfl f11 (show _ = _ from rfl) (hI.u0 hK rfl)
        refine .cons (fun V Ld a W hLi hpre hR hI KK hK => ?_) ?_
        ·
         have f8 := hI.ef hR hpre 8 rfl rfl rfl (by kernel_rfl)
         have f21 := hI.ef hR hpre 21 rfl rfl rfl (by kernel_rfl)
         exact G_pick rfl (.tmp 24) (.const (.bool true)) (.tmp 37) rfl f8 (show _ = _ from f21) (hI.u0 hK rfl)
        refine .mf 22 rfl rfl rfl rfl rfl (by kernel_rfl) rfl ?_
        refine .cons (fun V Ld a W hLi hpre hR hI KK hK => ?_) ?_
        ·
         refine G_gw hI hR hpre 23 rfl rfl rfl rfl (by kernel_rfl) ?_
         have o4 := (hR.old 4 (by kernel_rfl)).trans (show _ = Value.pointer (some ⟨wr.heap.size, 0, none⟩) from rfl)
         exact J_fieldAddr rfl _ (.tmp 4) 1 rfl (by rw [o4]; go_simp) (hI.u0 hK rfl)
        refine .cons (fun V Ld a W hLi hpre hR hI KK hK => ?_) ?_
        ·
         refine G_gw hI hR hpre 23 rfl rfl rfl rfl (by kernel_rfl) ?_
         have f24 := hI.ef hR hpre 24 rfl rfl rfl (by kernel_rfl)
         have c := (hI.st.bl.cell LV.out).trans VC.out.c1
         exact J_load rfl _ (.tmp 40) rfl (by rw [f24]; go_simp) (hI.u0 hK rfl)
        refine .cons (fun V Ld a W hLi hpre hR hI KK hK => ?_) ?_
        ·
         refine G_gw hI hR hpre 23 rfl rfl rfl rfl (by kernel_rfl) ?_
         have f25 := hI.ef hR hpre 25 rfl rfl rfl (by kernel_rfl)
         exact G_len rfl (.tmp 41) _ rfl (by rw [f25]; go_simp) (hI.u0 hK rfl)
        refine .cons (fun V Ld a W hLi hpre hR hI KK hK => ?_) ?_
        ·
         refine G_gw hI hR hpre 23 rfl rfl rfl rfl (by kernel_rfl) ?_
         have f26 := hI.ef hR hpre 26 rfl rfl rfl (by kernel_rfl)
         exact J_binOp rfl .lss _ (.tmp 42) (.const (.int .i64 1)) _ rfl (by rw [f26]; exact bt_lss _ _ _ _ W J3.out) (hI.u0 hK rfl)
        refine .cons (fun V Ld a W hLi hpre hR hI KK hK => ?_) ?_
        ·
         have f23 := hI.ef hR hpre 23 rfl rfl rfl (by kernel_rfl)
         have f27 := hI.ef hR hpre 27 rfl rfl rfl (by kernel_rfl)
         exact G_pick rfl (.tmp 39) (.const (.bool true)) (.tmp 43) rfl f23 (show _ = _ from f27) (hI.u0 hK rfl)
        refine .mf 28 rfl rfl rfl rfl rfl (by kernel_rfl) rfl ?_
        refine .un 29 rfl rfl rfl rfl (by kernel_rfl) rfl ?_
        refine .un 29 rfl rfl rfl rfl (by kernel_rfl) rfl ?_
        refine .un 29 rfl rfl rfl rfl (by kernel_rfl) rfl ?_
        refine .un 29 rfl rfl rfl rfl (by kernel_rfl) rfl ?_
        refine .cons (fun V Ld a W hLi hpre hR hI KK hK => ?_) ?_
        ·
         have f29 := hI.ef hR hpre 29 rfl rfl rfl (by kernel_rfl)
         exact G_pick rfl (.tmp 45) (.const (.bool true)) (.tmp 49) rfl f29 (show _ = _ from rfl) (hI.u0 hK rfl)
        refine .mf 34 rfl rfl rfl rfl rfl (by kernel_rfl) rfl ?_
        refine .un 35 rfl rfl rfl rfl (by kernel_rfl) rfl ?_
        refine .un 35 rfl rfl rfl rfl (by kernel_rfl) rfl ?_
        refine .un 35 rfl rfl rfl rfl (by kernel_rfl) rfl ?_
        refine .un 35 rfl rfl rfl rfl (by kernel_rfl) rfl ?_
        refine .cons (fun V Ld a W hLi hpre hR hI KK hK => ?_) trivial
        ·
         have f35 := hI.ef hR hpre 35 rfl rfl rfl (by kernel_rfl)
         exact G_pick rfl (.tmp 51) (.const (.bool true)) (.tmp 55) rfl f35 (show _ = _ from rfl) (hI.u0 hK rfl)
       case refine_3 =>
        intro V Ld w9 hLd hI
        have e9 : V 40 = .bool true := hI.val 40 _ rfl (hLd 40 (by decide))
        have hb9 := hI.st.bl
        clear hI hLd
        simp only [finL, putL, Act.put, Nat.reduceAdd]
        rw [e9]
        clear e9
        generalize V 0 = v0, V 1 = v1
        generalize V 2 = v2, V 3 = v3
        generalize V 4 = v4, V 5 = v5
        generalize V 6 = v6, V 7 = v7
        generalize V 8 = v8, V 9 = v9
        generalize V 10 = v10, V 11 = v11
        generalize V 12 = v12, V 13 = v13
        generalize V 14 = v14, V 15 = v15
        generalize V 16 = v16, V 17 = v17
        generalize V 18 = v18, V 19 = v19
        generalize V 20 = v20, V 21 = v21
        generalize V 22 = v22, V 23 = v23
        generalize V 24 = v24, V 25 = v25
        generalize V 26 = v26, V 27 = v27
        generalize V 28 = v28, V 29 = v29
        generalize V 30 = v30, V 31 = v31
        generalize V 32 = v32, V 33 = v33
        generalize V 34 = v34, V 35 = v35
        generalize V 36 = v36, V 37 = v37
        generalize V 38 = v38, V 39 = v39
        clear V
        simp only [List.setIfInBounds_toArray, List.set_cons_succ, List.set_cons_zero]
        go_wp2_with fail
        go_ret
        exact RetB.bool HV.out (below_trans HBW.out (below_trans hb0 hb9))
      ·
       skip
       have QB := Lib.hid (show (1 : Int) ≤ ((cAt C k).o.size : Int) by omega)
       clear qb
       have HV := Lib.hid (HBAD.out _ hlt (cou_3 Q3.out))
       have J1a := Lib.hid (show (1 : Int) ≤ x.id from by rw [hx.id]; exact (inI_of Q1.out).1)
       have J1b := Lib.hid (show x.id ≤ (1048576 : Int) from by rw [hx.id]; exact (inI_of Q1.out).2)
       have J3a := Lib.hid (show (1 : Int) ≤ (x.o.size : Int) from by rw [hx.o]; exact QB.out)
       have J3 := Lib.hid (show (32 : Int) < (x.o.size : Int) from by rw [hx.o]; have h := inI_no Q3.out; have := QB.out; omega)
       clear hx
       go_wp2_with fail
       refine gen_world fun w0 hw0 => ?_
       have hb0 : Below wr.heap.size wr w0 := by rw [hw0]; exact below_alloc _ _
       have VC := Lib.hid (show CouC w0 wr.heap.size x.id x.o (.slice x.A x.n x.c) from by rw [hw0]; exact CouC.new _ _ _ _)
       have LV := Lib.hid (show wr.heap.size < w0.heap.size from by rw [hw0]; simp)
       clear hw0
       refine wp_region_J2 (GI (R := Bl) [Pr.eq (.pointer (some ⟨wr.heap.size, 0, none⟩)), Pr.eq (.int .i64 (x.id)), Pr.eq (.bool false), Pr.eq (.bool false), Pr.eq (.pointer (some ⟨wr.heap.size, 0, none⟩)), Pr.eq (.int .i64 (x.id)), Pr.eq (.bool false), Pr.eq (.bool false), Pr.eq (.bool false), Pr.eq (.int .i64 ((k : Int))), Pr.eq (.bool false), Pr.eq (.bool false), Pr.eq undef, Pr.eq undef, Pr.eq undef, Pr.eq undef, Pr.eq undef, Pr.eq undef, Pr.eq undef, Pr.eq undef, Pr.eq undef, Pr.eq (.bool false), Pr.eq (.bool false), Pr.eq (.bool false), Pr.eq (.pointer (some ⟨wr.heap.size, 1, none⟩)), Pr.eq (.string (x.o)), Pr.eq (.int .i64 ((x.o.size : Int))), Pr.eq (.bool false), Pr.eq (.bool false), Pr.eq (.bool false), Pr.eq (.pointer (some ⟨wr.heap.size, 1, none⟩)), Pr.eq (.string (x.o)), Pr.eq (.int .i64 ((x.o.size : Int))), Pr.eq (.bool true), Pr.eq (.bool true), Pr.eq (.bool true), Pr.eq undef, Pr.eq undef, Pr.eq undef, Pr.eq undef, Pr.eq (.bool true)] (GrS w0)) (by kernel_rfl) (by kernel_rfl) (by kernel_rfl) ?_ ?_ ?_
       case refine_1 => exact fun V => GI.start (GrS.start _ _ _)
       case refine_2 =>
        refine .cons (fun V Ld a W hLi hpre hR hI KK hK => ?_) ?_
        ·
         have o4 := (hR.old 4 (by kernel_rfl)).trans (show _ = Value.pointer (some ⟨wr.heap.size, 0, none⟩) from rfl)
         exact J_fieldAddr rfl _ (.tmp 4) 0 rfl (by rw [o4]; go_simp) (hI.u0 hK rfl)
        refine .cons (fun V Ld a W hLi hpre hR hI KK hK => ?_) ?_
        ·
         have f0 := hI.ef hR hpre 0 rfl rfl rfl (by kernel_rfl)
         have c := (hI.st.bl.cell LV.out).trans VC.out.c0
         exact J_load rfl _ (.tmp 16) rfl (by rw [f0]; go_simp) (hI.u0 hK rfl)
        refine .cons (fun V Ld a W hLi hpre hR hI KK hK => ?_) ?_
        ·
         have f1 := hI.ef hR hpre 1 rfl rfl rfl (by kernel_rfl)
         exact J_binOp rfl .lss _ (.tmp 17) (.const (.int .i64 1)) _ rfl (by rw [f1]; exact bf_lss _ _ _ _ W J1a.out) (hI.u0 hK rfl)
        refine .mf 2 rfl rfl rfl rfl rfl (by kernel_rfl) rfl ?_
        refine .cons (fun V Ld a W hLi hpre hR hI KK hK => ?_) ?_
        ·
         refine G_gw hI hR hpre 3 rfl rfl rfl rfl (by kernel_rfl) ?_
         have o4 := (hR.old 4 (by kernel_rfl)).trans (show _ = Value.pointer (some ⟨wr.heap.size, 0, none⟩) from rfl)
         exact J_fieldAddr rfl _ (.tmp 4) 0 rfl (by rw [o4]; go_simp) (hI.u0 hK rfl)
        refine .cons (fun V Ld a W hLi hpre hR hI KK hK => ?_) ?_
        ·
         refine G_gw hI hR hpre 3 rfl rfl rfl rfl (by kernel_rfl) ?_
         have f4 := hI.ef hR hpre 4 rfl rfl rfl (by kernel_rfl)
         have c := (hI.st.bl.cell LV.out).trans VC.out.c0
         exact J_load rfl _ (.tmp 20) rfl (by rw [f4]; go_simp) (hI.u0 hK rfl)
        refine .cons (fun V Ld a W hLi hpre hR hI KK hK => ?_) ?_
        ·
         refine G_gw hI hR hpre 3 rfl rfl rfl rfl (by kernel_rfl) ?_
         have f5 := hI.ef hR hpre 5 rfl rfl rfl (by kernel_rfl)
         exact J_binOp rfl .gtr _ (.tmp 21) (.const (.int .i64 1048576)) _ rfl (by rw [f5]; exact bf_gtr _ _ _ _ W J1b.out) (hI.u0 hK rfl)
        refine .cons (fun V Ld a W hLi hpre hR hI KK hK => ?_) ?_
        ·
         have f3 := hI.ef hR hpre 3 rfl rfl rfl (by kernel_rfl)
         have f6 := hI.ef hR hpre 6 rfl rfl rfl (by kernel_rfl)
         exact G_pick rfl (.tmp 19) (.const (.bool true)) (.tmp 22) rfl f3 (show _ = _ from f6) (hI.u0 hK rfl)
        refine .mf 7 rfl rfl rfl rfl rfl (by kernel_rfl) rfl ?_
        refine .cons (fun V Ld a W hLi hpre hR hI KK hK => ?_) ?_
        ·
         refine G_gw hI hR hpre 8 rfl rfl rfl rfl (by kernel_rfl) ?_
         have o3 := (hR.old 3 (by kernel_rfl)).trans (show _ = Value.int .i64 ((k : Int)) from rfl)
         exact G_move rfl (.tmp 3) rfl o3 (hI.u0 hK rfl)
        refine .cons (fun V Ld a W hLi hpre hR hI KK hK => ?_) ?_
        ·
         refine G_gw hI hR hpre 8 rfl rfl rfl rfl (by kernel_rfl) ?_
         have f9 := hI.ef hR hpre 9 rfl rfl rfl (by kernel_rfl)
         exact J_binOp rfl .gtr _ (.tmp 25) (.const (.int .i64 0)) _ rfl (by rw [f9]; exact bf_gtr _ _ _ _ W Z1.out) (hI.u0 hK rfl)
        refine .cons (fun V Ld a W hLi hpre hR hI KK hK => ?_) ?_
        ·
         refine G_gw hI hR hpre 8 rfl rfl rfl rfl (by kernel_rfl) ?_
         have f10 := hI.ef hR hpre 10 rfl rfl rfl (by kernel_rfl)
         exact G_move rfl (.tmp 26) rfl f10 (hI.u0 hK rfl)
        refine .un 11 rfl rfl rfl rfl (by kernel_rfl) rfl ?_
        refine .un 11 rfl rfl rfl rfl (by kernel_rfl) rfl ?_
        refine .un 11 rfl rfl rfl rfl (by kernel_rfl) rfl ?_
        refine .un 11 rfl rfl rfl rfl (by kernel_rfl) rfl ?_
        refine .un 11 rfl rfl rfl rfl (by kernel_rfl) rfl ?_
        refine .un 11 rfl rfl rfl rfl (by kernel_rfl) rfl ?_
        refine .un 11 rfl rfl rfl rfl (by kernel_rfl) rfl ?_
        refine .un 11 rfl rfl rfl rfl (by kernel_rfl) rfl ?_
        refine .un 11 rfl rfl rfl rfl (by kernel_rfl) rfl ?_
        refine .cons (fun V Ld a W hLi hpre hR hI KK hK => ?_) ?_
        ·
         refine G_gw hI hR hpre 8 rfl rfl rfl rfl (by kernel_rfl) ?_
         have f11 := hI.ef hR hpre 11 rfl rfl rfl (by kernel_rfl)
         exact G_pick rfl (.tmp 27) (.tmp 36) (.const (.bool false)) rfl f11 (show _ = _ from rfl) (hI.u0 hK rfl)
        refine .cons (fun V Ld a W hLi hpre hR hI KK hK => ?_) ?_
        ·
         have f8 := hI.ef hR hpre 8 rfl rfl rfl (by kernel_rfl)
         have f21 := hI.ef hR hpre 21 rfl rfl rfl (by kernel_rfl)
         exact G_pick rfl (.tmp 24) (.const (.bool true)) (.tmp 37) rfl f8 (show _ = _ from f21) (hI.u0 hK rfl)
        refine .mf 22 rfl rfl rfl rfl rfl (by kernel_rfl) rfl ?_
        refine .cons (fun V Ld a W hLi hpre hR hI KK hK => ?_) ?_
        ·
         refine G_gw hI hR hpre 23 rfl rfl rfl rfl (by kernel_rfl) ?_
         have o4 := (hR.old 4 (by kernel_rfl)).trans (show _ = Value.pointer (some ⟨wr.heap.size, 0, none⟩) from rfl)
         exact J_fieldAddr rfl _ (.tmp 4) 1 rfl (by rw [o4]; go_simp) (hI.u0 hK rfl)
        refine .cons (fun V Ld a W hLi hpre hR hI KK hK => ?_) ?_
        ·
         refine G_gw hI hR hpre 23 rfl rfl rfl rfl (by kernel_rfl) ?_
         have f24 := hI.ef hR hpre 24 rfl rfl rfl (by kernel_rfl)
         have c := (hI.st.bl.cell LV.out).trans VC.out.c1
         exact J_load rfl _ (.tmp 40) rfl (by rw [f24]; go_simp) (hI.u0 hK rfl)
        refine .cons (fun V Ld a W hLi hpre hR hI KK hK => ?_) ?_
        ·
         refine G_gw hI hR hpre 23 rfl rfl rfl rfl (by kernel_rfl) ?_
         have f25 := hI.ef hR hpre 25 rfl rfl rfl (by kernel_rfl)
         exact G_len rfl (.tmp 41) _ rfl (by rw [f25]; go_simp) (hI.u0 hK rfl)
        refine .cons (fun V Ld a W hLi hpre hR hI KK hK => ?_) ?_
        ·
         refine G_gw hI hR hpre 23 rfl rfl rfl rfl (by kernel_rfl) ?_
         have f26 := hI.ef hR hpre 26 rfl rfl rfl (by kernel_rfl)
         exact J_binOp rfl .lss _ (.tmp 42) (.const (.int .i64 1)) _ rfl (by rw [f26]; exact bf_lss _ _ _ _ W J3a.out) (hI.u0 hK rfl)
        refine .cons (fun V Ld a W hLi hpre hR hI KK hK => ?_) ?_
        ·
         have f23 := hI.ef hR hpre 23 rfl rfl rfl (by kernel_rfl)
         have f27 := hI.ef hR hpre 27 rfl rfl rfl (by kernel_rfl)
         exact G_pick rfl (.tmp 39) (.const (.bool true)) (.tmp 43) rfl f23 (show _ = _ from f27) (hI.u0 hK rfl)
        refine .mf 28 rfl rfl rfl rfl rfl (by kernel_rfl) rfl ?_
        refine .cons (fun V Ld a W hLi hpre hR hI KK hK => ?_) ?_
        ·
         refine G_gw hI hR hpre 29 rfl rfl rfl rfl (by kernel_rfl) ?_
         have o4 := (hR.old 4 (by kernel_rfl)).trans (show _ = Value.pointer (some ⟨wr.heap.size, 0, none⟩) from rfl)
         exact J_fieldAddr rfl _ (.tmp 4) 1 rfl (by rw [o4]; go_simp) (hI.u0 hK rfl)
        refine .cons (fun V Ld a W hLi hpre hR hI KK hK => ?_) ?_
        ·
         refine G_gw hI hR hpre 29 rfl rfl rfl rfl (by kernel_rfl) ?_
         have f30 := hI.ef hR hpre 30 rfl rfl rfl (by kernel_rfl)
         have c := (hI.st.bl.cell LV.out).trans VC.out.c1
         exact J_load rfl _ (.tmp 46) rfl (by rw [f30]; go_simp) (hI.u0 hK rfl)
        refine .cons (fun V Ld a W hLi hpre hR hI KK hK => ?_) ?_
        ·
         refine G_gw hI hR hpre 29 rfl rfl rfl rfl (by kernel_rfl) ?_
         have f31 := hI.ef hR hpre 31 rfl rfl rfl (by kernel_rfl)
         exact G_len rfl (.tmp 47) _ rfl (by rw [f31]; go_simp) (hI.u0 hK rfl)
        refine .cons (fun V Ld a W hLi hpre hR hI KK hK => ?_) ?_
        ·
         refine G_gw hI hR hpre 29 rfl rfl rfl rfl (by kernel_rfl) ?_
         have f32 := hI.ef hR hpre 32 rfl rfl rfl (by kernel_rfl)
         exact J_binOp rfl .gtr _ (.tmp 48) (.const (.int .i64 32)) _ rfl (by rw [f32]; exact bt_gtr _ _ _ _ W J3.out) (hI.u0 hK rfl)
        refine .cons (fun V Ld a W hLi hpre hR hI KK hK => ?_) ?_
        ·
         have f29 := hI.ef hR hpre 29 rfl rfl rfl (by kernel_rfl)
         have f33 := hI.ef hR hpre 33 rfl rfl rfl (by kernel_rfl)
         exact G_pick rfl (.tmp 45) (.const (.bool true)) (.tmp 49) rfl f29 (show _ = _ from f33) (hI.u0 hK rfl)
        refine .mf 34 rfl rfl rfl rfl rfl (by kernel_rfl) rfl ?_
        refine .un 35 rfl rfl rfl rfl (by kernel_rfl) rfl ?_
        refine .un 35 rfl rfl rfl rfl (by kernel_rfl) rfl ?_
        refine .un 35 rfl rfl rfl rfl (by kernel_rfl) rfl ?_
        refine .un 35 rfl rfl rfl rfl (by kernel_rfl) rfl ?_
        refine .cons (fun V Ld a W hLi hpre hR hI KK hK => ?_) trivial
        ·
         have f35 := hI.ef hR hpre 35 rfl rfl rfl (by kernel_rfl)
         exact G_pick rfl (.tmp 51) (.const (.bool true)) (.tmp 55) rfl f35 (show _ = _ from rfl) (hI.u0 hK rfl)
       case refine_3 =>
        intro V Ld w9 hLd hI
        have e9 : V 40 = .bool true := hI.val 40 _ rfl (hLd 40 (by decide))
        have hb9 := hI.st.bl
        clear hI hLd
        simp only [finL, putL, Act.put, Nat.reduceAdd]
        rw [e9]
        clear e9
        generalize V 0 = v0, V 1 = v1
        generalize V 2 = v2, V 3 = v3
        generalize V 4 = v4, V 5 = v5
        generalize V 6 = v6, V 7 = v7
        generalize V 8 = v8, V 9 = v9
        generalize V 10 = v10, V 11 = v11
        generalize V 12 = v12, V 13 = v13
        generalize V 14 = v14, V 15 = v15
        generalize V 16 = v16, V 17 = v17
        generalize V 18 = v18, V 19 = v19
        generalize V 20 = v20, V 21 = v21
        generalize V 22 = v22, V 23 = v23
        generalize V 24 = v24, V 25 = v25
        generalize V 26 = v26, V 27 = v27
        generalize V 28 = v28, V 29 = v29
        generalize V 30 = v30, V 31 = v31
        generalize V 32 = v32, V 33 = v33
        generalize V 34 = v34, V 35 = v35
        generalize V 36 = v36, V 37 = v37
        generalize V 38 = v38, V 39 = v39
        clear V
        simp only [List.setIfInBounds_toArray, List.set_cons_succ, List.set_cons_zero]
        go_wp2_with fail
        go_ret
        exact RetB.bool HV.out (below_trans HBW.out (below_trans hb0 hb9))
     | true =>
      have Q3 := Lib.hid q3
      clear q3
      by_cases q4 : (cAt C k).away.length ≤ 256
      ·
       skip
       have Q4 := Lib.hid q4
       clear q4
       have J1a := Lib.hid (show (1 : Int) ≤ x.id from by rw [hx.id]; exact (inI_of Q1.out).1)
       have J1b := Lib.hid (show x.id ≤ (1048576 : Int) from by rw [hx.id]; exact (inI_of Q1.out).2)
       have J3a := Lib.hid (show (1 : Int) ≤ (x.o.size : Int) from by rw [hx.o]; exact (inI_of Q3.out).1)
       have J3b := Lib.hid (show (x.o.size : Int) ≤ (32 : Int) from by rw [hx.o]; exact (inI_of Q3.out).2)
       have J4 := Lib.hid (show (x.n : Int) ≤ 256 from by have := Q4.out; have := hx.n; omega)
       go_wp2_with fail
       refine gen_world fun w0 hw0 => ?_
       have hb0 : Below wr.heap.size wr w0 := by rw [hw0]; exact below_alloc _ _
       have VC := Lib.hid (show CouC w0 wr.heap.size x.id x.o (.slice x.A x.n x.c) from by rw [hw0]; exact CouC.new _ _ _ _)
       have LV := Lib.hid (show wr.heap.size < w0.heap.size from by rw [hw0]; simp)
       clear hw0
       refine wp_region_J2 (GI (R := Bl) [Pr.eq (.pointer (some ⟨wr.heap.size, 0, none⟩)), Pr.eq (.int .i64 (x.id)), Pr.eq (.bool false), Pr.eq (.bool false), Pr.eq (.pointer (some ⟨wr.heap.size, 0, none⟩)), Pr.eq (.int .i64 (x.id)), Pr.eq (.bool false), Pr.eq (.bool false), Pr.eq (.bool false), Pr.eq (.int .i64 ((k : Int))), Pr.eq (.bool false), Pr.eq (.bool false), Pr.eq undef, Pr.eq undef, Pr.eq undef, Pr.eq undef, Pr.eq undef, Pr.eq undef, Pr.eq undef, Pr.eq undef, Pr.eq undef, Pr.eq (.bool false), Pr.eq (.bool false), Pr.eq (.bool false), Pr.eq (.pointer (some ⟨wr.heap.size, 1, none⟩)), Pr.eq (.string (x.o)), Pr.eq (.int .i64 ((x.o.size : Int))), Pr.eq (.bool false), Pr.eq (.bool false), Pr.eq (.bool false), Pr.eq (.pointer (some ⟨wr.heap.size, 1, none⟩)), Pr.eq (.string (x.o)), Pr.eq (.int .i64 ((x.o.size : Int))), Pr.eq (.bool false), Pr.eq (.bool false), Pr.eq (.bool false), Pr.eq (.pointer (some ⟨wr.heap.size, 2, none⟩)), Pr.eq (.slice x.A x.n x.c), Pr.eq (.int .i64 ((x.n : Int))), Pr.eq (.bool false), Pr.eq (.bool false)] (GrS w0)) (by kernel_rfl) (by kernel_rfl) (by kernel_rfl) ?_ ?_ ?_
       case refine_1 => exact fun V => GI.start (GrS.start _ _ _)
       case refine_2 =>
        refine .cons (fun V Ld a W hLi hpre hR hI KK hK => ?_) ?_
        ·
         have o4 := (hR.old 4 (by kernel_rfl)).trans (show _ = Value.pointer (some ⟨wr.heap.size, 0, none⟩) from rfl)
         exact J_fieldAddr rfl _ (.tmp 4) 0 rfl (by rw [o4]; go_simp) (hI.u0 hK rfl)
        refine .cons (fun V Ld a W hLi hpre hR hI KK hK => ?_) ?_
        ·
         have f0 := hI.ef hR hpre 0 rfl rfl rfl (by kernel_rfl)
         have c := (hI.st.bl.cell LV.out).trans VC.out.c0
         exact J_load rfl _ (.tmp 16) rfl (by rw [f0]; go_simp) (hI.u0 hK rfl)
        refine .cons (fun V Ld a W hLi hpre hR hI KK hK => ?_) ?_
        ·
         have f1 := hI.ef hR hpre 1 rfl rfl rfl (by kernel_rfl)
         exact J_binOp rfl .lss _ (.tmp 17) (.const (.int .i64 1)) _ rfl (by rw [f1]; exact bf_lss _ _ _ _ W J1a.out) (hI.u0 hK rfl)
        refine .mf 2 rfl rfl rfl rfl rfl (by kernel_rfl) rfl ?_
        refine .cons (fun V Ld a W hLi hpre hR hI KK hK => ?_) ?_
        ·
         refine G_gw hI hR hpre 3 rfl rfl rfl rfl (by kernel_rfl) ?_
         have o4 := (hR.old 4 (by kernel_rfl)).trans (show _ = Value.pointer (some ⟨wr.heap.size, 0, none⟩) from rfl)
         exact J_fieldAddr rfl _ (.tmp 4) 0 rfl (by rw [o4]; go_simp) (hI.u0 hK rfl)
        refine .cons (fun V Ld a W hLi hpre hR hI KK hK => ?_) ?_
        ·
         refine G_gw hI hR hpre 3 rfl rfl rfl rfl (by kernel_rfl) ?_
         have f4 := hI.ef hR hpre 4 rfl rfl rfl (by kernel_rfl)
         have c := (hI.st.bl.cell LV.out).trans VC.out.c0
         exact J_load rfl _ (.tmp 20) rfl (by rw [f4]; go_simp) (hI.u0 hK rfl)
        refine .cons (fun V Ld a W hLi hpre hR hI KK hK => ?_) ?_
        ·
         refine G_gw hI hR hpre 3 rfl rfl rfl rfl (by kernel_rfl) ?_
         have f5 := hI.ef hR hpre 5 rfl rfl rfl (by kernel_rfl)
         exact J_binOp rfl .gtr _ (.tmp 21) (.const (.int .i64 1048576)) _ rfl (by rw [f5]; exact bf_gtr _ _ _ _ W J1b.out) (hI.u0 hK rfl)
        refine .cons (fun V Ld a W hLi hpre hR hI KK hK => ?_) ?_
        ·
         have f3 := hI.ef hR hpre 3 rfl rfl rfl (by kernel_rfl)
         have f6 := hI.ef hR hpre 6 rfl rfl rfl (by kernel_rfl)
         exact G_pick rfl (.tmp 19) (.const (.bool true)) (.tmp 22) rfl f3 (show _ = _ from f6) (hI.u0 hK rfl)
        refine .mf 7 rfl rfl rfl rfl rfl (by kernel_rfl) rfl ?_
        refine .cons (fun V Ld a W hLi hpre hR hI KK hK => ?_) ?_
        ·
         refine G_gw hI hR hpre 8 rfl rfl rfl rfl (by kernel_rfl) ?_
         have o3 := (hR.old 3 (by kernel_rfl)).trans (show _ = Value.int .i64 ((k : Int)) from rfl)
         exact G_move rfl (.tmp 3) rfl o3 (hI.u0 hK rfl)
        refine .cons (fun V Ld a W hLi hpre hR hI KK hK => ?_) ?_
        ·
         refine G_gw hI hR hpre 8 rfl rfl rfl rfl (by kernel_rfl) ?_
         have f9 := hI.ef hR hpre 9 rfl rfl rfl (by kernel_rfl)
         exact J_binOp rfl .gtr _ (.tmp 25) (.const (.int .i64 0)) _ rfl (by rw [f9]; exact bf_gtr _ _ _ _ W Z1.out) (hI.u0 hK rfl)
        refine .cons (fun V Ld a W hLi hpre hR hI KK hK => ?_) ?_
        ·
         refine G_gw hI hR hpre 8 rfl rfl rfl rfl (by kernel_rfl) ?_
         have f10 := hI.ef hR hpre 10 rfl rfl rfl (by kernel_rfl)
         exact G_move rfl (.tmp 26) rfl f10 (hI.u0 hK rfl)
        refine .un 11 rfl rfl rfl rfl (by kernel_rfl) rfl ?_
        refine .un 11 rfl rfl rfl rfl (by kernel_rfl) rfl ?_
        refine .un 11 rfl rfl rfl rfl (by kernel_rfl) rfl ?_
        refine .un 11 rfl rfl rfl rfl (by kernel_rfl) rfl ?_
        refine .un 11 rfl rfl rfl rfl (by kernel_rfl) rfl ?_
        refine .un 11 rfl rfl rfl rfl (by kernel_rfl) rfl ?_
        refine .un 11 rfl rfl rfl rfl (by kernel_rfl) rfl ?_
        refine .un 11 rfl rfl rfl rfl (by kernel_rfl) rfl ?_
        refine .un 11 rfl rfl rfl rfl (by kernel_rfl) rfl ?_
        refine .cons (fun V Ld a W hLi hpre hR hI KK hK => ?_) ?_
        ·
         refine G_gw hI hR hpre 8 rfl rfl rfl rfl (by kernel_rfl) ?_
         have f11 := hI.ef hR hpre 11 rfl rfl rfl (by kernel_rfl)
         exact G_pick rfl (.tmp 27) (.tmp 36) (.const (.bool false)) rfl f11 (show _ = _ from rfl) (hI.u0 hK rfl)
        refine .cons (fun V Ld a W hLi hpre hR hI KK hK => ?_) ?_
        ·
         have f8 := hI.ef hR hpre 8 rfl rfl rfl (by kernel_rfl)
         have f21 := hI.ef hR hpre 21 rfl rfl rfl (by kernel_rfl)
         exact G_pick rfl (.tmp 24) (.const (.bool true)) (.tmp 37) rfl f8 (show _ = _ from f21) (hI.u0 hK rfl)
        refine .mf 22 rfl rfl rfl rfl rfl (by kernel_rfl) rfl ?_
        refine .cons (fun V Ld a W hLi hpre hR hI KK hK => ?_) ?_
        ·
         refine G_gw hI hR hpre 23 rfl rfl rfl rfl (by kernel_rfl) ?_
         have o4 := (hR.old 4 (by kernel_rfl)).trans (show _ = Value.pointer (some ⟨wr.heap.size, 0, none⟩) from rfl)
         exact J_fieldAddr rfl _ (.tmp 4) 1 rfl (by rw [o4]; go_simp) (hI.u0 hK rfl)
        refine .cons (fun V Ld a W hLi hpre hR hI KK hK => ?_) ?_
        ·
         refine G_gw hI hR hpre 23 rfl rfl rfl rfl (by kernel_rfl) ?_
         have f24 := hI.ef hR hpre 24 rfl rfl rfl (by kernel_rfl)
         have c := (hI.st.bl.cell LV.out).trans VC.out.c1
         exact J_load rfl _ (.tmp 40) rfl (by rw [f24]; go_simp) (hI.u0 hK rfl)
        refine .cons (fun V Ld a W hLi hpre hR hI KK hK => ?_) ?_
        ·
         refine G_gw hI hR hpre 23 rfl rfl rfl rfl (by kernel_rfl) ?_
         have f25 := hI.ef hR hpre 25 rfl rfl rfl (by kernel_rfl)
         exact G_len rfl (.tmp 41) _ rfl (by rw [f25]; go_simp) (hI.u0 hK rfl)
        refine .cons (fun V Ld a W hLi hpre hR hI KK hK => ?_) ?_
        ·
         refine G_gw hI hR hpre 23 rfl rfl rfl rfl (by kernel_rfl) ?_
         have f26 := hI.ef hR hpre 26 rfl rfl rfl (by kernel_rfl)
         exact J_binOp rfl .lss _ (.tmp 42) (.const (.int .i64 1)) _ rfl (by rw [f26]; exact bf_lss _ _ _ _ W J3a.out) (hI.u0 hK rfl)
        refine .cons (fun V Ld a W hLi hpre hR hI KK hK => ?_) ?_
        ·
         have f23 := hI.ef hR hpre 23 rfl rfl rfl (by kernel_rfl)
         have f27 := hI.ef hR hpre 27 rfl rfl rfl (by kernel_rfl)
         exact G_pick rfl (.tmp 39) (.const (.bool true)) (.tmp 43) rfl f23 (show _ = _ from f27) (hI.u0 hK rfl)
        refine .mf 28 rfl rfl rfl rfl rfl (by kernel_rfl) rfl ?_
        refine .cons (fun V Ld a W hLi hpre hR hI KK hK => ?_) ?_
        ·
         refine G_gw hI hR hpre 29 rfl rfl rfl rfl (by kernel_rfl) ?_
         have o4 := (hR.old 4 (by kernel_rfl)).trans (show _ = Value.pointer (some ⟨wr.heap.size, 0, none⟩) from rfl)
         exact J_fieldAddr rfl _ (.tmp 4) 1 rfl (by rw [o4]; go_simp) (hI.u0 hK rfl)
        refine .cons (fun V Ld a W hLi hpre hR hI KK hK => ?_) ?_
        ·
         refine G_gw hI hR hpre 29 rfl rfl rfl rfl (by kernel_rfl) ?_
         have f30 := hI.ef hR hpre 30 rfl rfl rfl (by kernel_rfl)
         have c := (hI.st.bl.cell LV.out).trans VC.out.c1
         exact J_load rfl _ (.tmp 46) rfl (by rw [f30]; go_simp) (hI.u0 hK rfl)
        refine .cons (fun V Ld a W hLi hpre hR hI KK hK => ?_) ?_
        ·
         refine G_gw hI hR hpre 29 rfl rfl rfl rfl (by kernel_rfl) ?_
         have f31 := hI.ef hR hpre 31 rfl rfl rfl (by kernel_rfl)
         exact G_len rfl (.tmp 47) _ rfl (by rw [f31]; go_simp) (hI.u0 hK rfl)
        refine .cons (fun V Ld a W hLi hpre hR hI KK hK => ?_) ?_
        ·
         refine G_gw hI hR hpre 29 rfl rfl rfl rfl (by kernel_rfl) ?_
         have f32 := hI.ef hR hpre 32 rfl rfl rfl (by kernel_rfl)
         exact J_binOp rfl .gtr _ (.tmp 48) (.const (.int .i64 32)) _ rfl (by rw [f32]; exact bf_gtr _ _ _ _ W J3b.out) (hI.u0 hK rfl)
        refine .cons (fun V Ld a W hLi hpre hR hI KK hK => ?_) ?_
        ·
         have f29 := hI.ef hR hpre 29 rfl rfl rfl (by kernel_rfl)
         have f33 := hI.ef hR hpre 33 rfl rfl rfl (by kernel_rfl)
         exact G_pick rfl (.tmp 45) (.const (.bool true)) (.tmp 49) rfl f29 (show _ = _ from f33) (hI.u0 hK rfl)
        refine .mf 34 rfl rfl rfl rfl rfl (by kernel_rfl) rfl ?_
        refine .cons (fun V Ld a W hLi hpre hR hI KK hK => ?_) ?_
        ·
         refine G_gw hI hR hpre 35 rfl rfl rfl rfl (by kernel_rfl) ?_
         have o4 := (hR.old 4 (by kernel_rfl)).trans (show _ = Value.pointer (some ⟨wr.heap.size, 0, none⟩) from rfl)
         exact J_fieldAddr rfl _ (.tmp 4) 2 rfl (by rw [o4]; go_simp) (hI.u0 hK rfl)
        refine .cons (fun V Ld a W hLi hpre hR hI KK hK => ?_) ?_
        ·
         refine G_gw hI hR hpre 35 rfl rfl rfl rfl (by kernel_rfl) ?_
         have f36 := hI.ef hR hpre 36 rfl rfl rfl (by kernel_rfl)
         have c := (hI.st.bl.cell LV.out).trans VC.out.c2
         exact J_load rfl _ (.tmp 52) rfl (by rw [f36]; go_simp) (hI.u0 hK rfl)
        refine .cons (fun V Ld a W hLi hpre hR hI KK hK => ?_) ?_
        ·
         refine G_gw hI hR hpre 35 rfl rfl rfl rfl (by kernel_rfl) ?_
         have f37 := hI.ef hR hpre 37 rfl rfl rfl (by kernel_rfl)
         exact G_len rfl (.tmp 53) _ rfl (by rw [f37]; go_simp) (hI.u0 hK rfl)
        refine .cons (fun V Ld a W hLi hpre hR hI KK hK => ?_) ?_
        ·
         refine G_gw hI hR hpre 35 rfl rfl rfl rfl (by kernel_rfl) ?_
         have f38 := hI.ef hR hpre 38 rfl rfl rfl (by kernel_rfl)
         exact J_binOp rfl .gtr _ (.tmp 54) (.const (.int .i64 256)) _ rfl (by rw [f38]; exact bf_gtr _ _ _ _ W J4.out) (hI.u0 hK rfl)
        refine .cons (fun V Ld a W hLi hpre hR hI KK hK => ?_) trivial
        ·
         have f35 := hI.ef hR hpre 35 rfl rfl rfl (by kernel_rfl)
         have f39 := hI.ef hR hpre 39 rfl rfl rfl (by kernel_rfl)
         exact G_pick rfl (.tmp 51) (.const (.bool true)) (.tmp 55) rfl f35 (show _ = _ from f39) (hI.u0 hK rfl)
       case refine_3 =>
        intro V Ld w9 hLd hI
        have e9 : V 40 = .bool false := hI.val 40 _ rfl (hLd 40 (by decide))
        have hb9 := hI.st.bl
        clear hI hLd
        simp only [finL, putL, Act.put, Nat.reduceAdd]
        rw [e9]
        clear e9
        generalize V 0 = v0, V 1 = v1
        generalize V 2 = v2, V 3 = v3
        generalize V 4 = v4, V 5 = v5
        generalize V 6 = v6, V 7 = v7
        generalize V 8 = v8, V 9 = v9
        generalize V 10 = v10, V 11 = v11
        generalize V 12 = v12, V 13 = v13
        generalize V 14 = v14, V 15 = v15
        generalize V 16 = v16, V 17 = v17
        generalize V 18 = v18, V 19 = v19
        generalize V 20 = v20, V 21 = v21
        generalize V 22 = v22, V 23 = v23
        generalize V 24 = v24, V 25 = v25
        generalize V 26 = v26, V 27 = v27
        generalize V 28 = v28, V 29 = v29
        generalize V 30 = v30, V 31 = v31
        generalize V 32 = v32, V 33 = v33
        generalize V 34 = v34, V 35 = v35
        generalize V 36 = v36, V 37 = v37
        generalize V 38 = v38, V 39 = v39
        clear V
        simp only [List.setIfInBounds_toArray, List.set_cons_succ, List.set_cons_zero]
        have HW := Lib.hid (below_trans hb0 hb9)
        have E2 := Lib.hid ((hb9.cell LV.out).trans VC.out.c2)
        have LV9 := Lib.hid (Nat.lt_of_lt_of_le LV.out hb9.size)
        have HAW := Lib.hid (hx.away.below HW.out)
        have HXN := Lib.hid hx.n
        have e2 := E2.out
        have HSW := Lib.hid (HSZ.out k hlt)
        have lx : x.n ≤ 256 := by have := J4.out; omega
        clear hx hb0 hb9
        go_wp2_with fail
        clear e2
        go_loopw [5] (fun i wv => ∃ j : Nat, j ≤ x.n ∧ i = .int .i64 j ∧ (∀ r, r < j → lngB (sAt (cAt C k).away r) = false) ∧ Below w9.heap.size w9 wv) (fun i _ => x.n - (intOf i).toNat)
        case atStart => exact ⟨0, Nat.zero_le _, rfl, fun r hr => absurd hr (by omega), Below.refl _ _⟩
        case round =>
         obtain ⟨j, hj, rfl, hpj, hbv⟩ := hrel
         have HPJ := Lib.hid hpj
         have HBV := Lib.hid hbv
         have e2 := (hbv.cell LV9.out).trans E2.out
         clear hpj
         by_cases hlj : j < x.n
         ·
          skip
          obtain ⟨ab, ao, eA, lab, -, s1⟩ := (HAW.out.below hbv).str (k := j) (by rw [← HXN.out]; exact hlj)
          have hj0 : (0 : Int) ≤ (j : Int) := by omega
          have hjl : (j : Int) < (x.n : Int) := by omega
          rw [eA] at e2
          cases ql : lngB (sAt (cAt C k).away j) with
          | true =>
           have HV := Lib.hid (HBAD.out _ hlt (cou_5 (any_at (by rw [← HXN.out]; exact hlj) ql)))
           have g : (256 : Int) < ((sAt (cAt C k).away j).size : Int) := by have h := of_decide_eq_true ql; omega
           clear ql hbv
           go_wp2_with fail
           go_ret
           exact RetB.bool HV.out (below_trans HBW.out (below_trans HW.out HBV.out))
          | false =>
           have QL := Lib.hid ql
           have g : ¬ (256 : Int) < ((sAt (cAt C k).away j).size : Int) := by have h := of_decide_eq_false ql; omega
           clear ql hbv
           go_wp2_with fail
           go_roundw
           case rel =>
            refine ⟨j + 1, by omega, by go_num, fun r hr => ?_, HBV.out⟩
            by_cases hrj : r = j
            ·
             subst hrj; exact QL.out
            ·
             exact HPJ.out r (by omega)
           case measure => simp [intOf]; omega
         ·
          have hje : x.n = j := by omega
          have HN := Lib.hid (show cousK C (k + 1) = true from by unfold cousK; rw [HK.out, cou_y Q1.out (prev_0 HZ.out) Q3.out Q4.out (any_none (by rw [← HXN.out, hje]; exact HPJ.out))]; rfl)
          have hjl : ¬ (j : Int) < (x.n : Int) := by omega
          clear hje
          go_wp2_with fail
          go_roundw
          case rel => exact ⟨k + 1, by omega, by go_num, HN.out, below_trans HBR.out (below_trans HW.out HBV.out)⟩
          case measure => simp [intOf]; omega
      ·
       skip
       have Q4 := Lib.hid q4
       clear q4
       have HV := Lib.hid (HBAD.out _ hlt (cou_4 Q4.out))
       have J1a := Lib.hid (show (1 : Int) ≤ x.id from by rw [hx.id]; exact (inI_of Q1.out).1)
       have J1b := Lib.hid (show x.id ≤ (1048576 : Int) from by rw [hx.id]; exact (inI_of Q1.out).2)
       have J3a := Lib.hid (show (1 : Int) ≤ (x.o.size : Int) from by rw [hx.o]; exact (inI_of Q3.out).1)
       have J3b := Lib.hid (show (x.o.size : Int) ≤ (32 : Int) from by rw [hx.o]; exact (inI_of Q3.out).2)
       have J4 := Lib.hid (show (256 : Int) < (x.n : Int) from by have := Q4.out; have := hx.n; omega)
       clear hx
       go_wp2_with fail
       refine gen_world fun w0 hw0 => ?_
       have hb0 : Below wr.heap.size wr w0 := by rw [hw0]; exact below_alloc _ _
       have VC := Lib.hid (show CouC w0 wr.heap.size x.id x.o (.slice x.A x.n x.c) from by rw [hw0]; exact CouC.new _ _ _ _)
       have LV := Lib.hid (show wr.heap.size < w0.heap.size from by rw [hw0]; simp)
       clear hw0
       refine wp_region_J2 (GI (R := Bl) [Pr.eq (.pointer (some ⟨wr.heap.size, 0, none⟩)), Pr.eq (.int .i64 (x.id)), Pr.eq (.bool false), Pr.eq (.bool false), Pr.eq (.pointer (some ⟨wr.heap.size, 0, none⟩)), Pr.eq (.int .i64 (x.id)), Pr.eq (.bool false), Pr.eq (.bool false), Pr.eq (.bool false), Pr.eq (.int .i64 ((k : Int))), Pr.eq (.bool false), Pr.eq (.bool false), Pr.eq undef, Pr.eq undef, Pr.eq undef, Pr.eq undef, Pr.eq undef, Pr.eq undef, Pr.eq undef, Pr.eq undef, Pr.eq undef, Pr.eq (.bool false), Pr.eq (.bool false), Pr.eq (.bool false), Pr.eq (.pointer (some ⟨wr.heap.size, 1, none⟩)), Pr.eq (.string (x.o)), Pr.eq (.int .i64 ((x.o.size : Int))), Pr.eq (.bool false), Pr.eq (.bool false), Pr.eq (.bool false), Pr.eq (.pointer (some ⟨wr.heap.size, 1, none⟩)), Pr.eq (.string (x.o)), Pr.eq (.int .i64 ((x.o.size : Int))), Pr.eq (.bool false), Pr.eq (.bool false), Pr.eq (.bool false), Pr.eq (.pointer (some ⟨wr.heap.size, 2, none⟩)), Pr.eq (.slice x.A x.n x.c), Pr.eq (.int .i64 ((x.n : Int))), Pr.eq (.bool true), Pr.eq (.bool true)] (GrS w0)) (by kernel_rfl) (by kernel_rfl) (by kernel_rfl) ?_ ?_ ?_
       case refine_1 => exact fun V => GI.start (GrS.start _ _ _)
       case refine_2 =>
        refine .cons (fun V Ld a W hLi hpre hR hI KK hK => ?_) ?_
        ·
         have o4 := (hR.old 4 (by kernel_rfl)).trans (show _ = Value.pointer (some ⟨wr.heap.size, 0, none⟩) from rfl)
         exact J_fieldAddr rfl _ (.tmp 4) 0 rfl (by rw [o4]; go_simp) (hI.u0 hK rfl)
        refine .cons (fun V Ld a W hLi hpre hR hI KK hK => ?_) ?_
        ·
         have f0 := hI.ef hR hpre 0 rfl rfl rfl (by kernel_rfl)
         have c := (hI.st.bl.cell LV.out).trans VC.out.c0
         exact J_load rfl _ (.tmp 16) rfl (by rw [f0]; go_simp) (hI.u0 hK rfl)
        refine .cons (fun V Ld a W hLi hpre hR hI KK hK => ?_) ?_
        ·
         have f1 := hI.ef hR hpre 1 rfl rfl rfl (by kernel_rfl)
         exact J_binOp rfl .lss _ (.tmp 17) (.const (.int .i64 1)) _ rfl (by rw [f1]; exact bf_lss _ _ _ _ W J1a.out) (hI.u0 hK rfl)
        refine .mf 2 rfl rfl rfl rfl rfl (by kernel_rfl) rfl ?_
        refine .cons (fun V Ld a W hLi hpre hR hI KK hK => ?_) ?_
        ·
         refine G_gw hI hR hpre 3 rfl rfl rfl rfl (by kernel_rfl) ?_
         have o4 := (hR.old 4 (by kernel_rfl)).trans (show _ = Value.pointer (some ⟨wr.heap.size, 0, none⟩) from rfl)
         exact J_fieldAddr rfl _ (.tmp 4) 0 rfl (by rw [o4]; go_simp) (hI.u0 hK rfl)
        refine .cons (fun V Ld a W hLi hpre hR hI KK hK => ?_) ?_
        ·
         refine G_gw hI hR hpre 3 rfl rfl rfl rfl (by kernel_rfl) ?_
         have f4 := hI.ef hR hpre 4 rfl rfl rfl (by kernel_rfl)
         have c := (hI.st.bl.cell LV.out).trans VC.out.c0
         exact J_load rfl _ (.tmp 20) rfl (by rw [f4]; go_simp) (hI.u0 hK rfl)
        refine .cons (fun V Ld a W hLi hpre hR hI KK hK => ?_) ?_
        ·
         refine G_gw hI hR hpre 3 rfl rfl rfl rfl (by kernel_rfl) ?_
         have f5 := hI.ef hR hpre 5 rfl rfl rfl (by kernel_rfl)
         exact J_binOp rfl .gtr _ (.tmp 21) (.const (.int .i64 1048576)) _ rfl (by rw [f5]; exact bf_gtr _ _ _ _ W J1b.out) (hI.u0 hK rfl)
        refine .cons (fun V Ld a W hLi hpre hR hI KK hK => ?_) ?_
        ·
         have f3 := hI.ef hR hpre 3 rfl rfl rfl (by kernel_rfl)
         have f6 := hI.ef hR hpre 6 rfl rfl rfl (by kernel_rfl)
         exact G_pick rfl (.tmp 19) (.const (.bool true)) (.tmp 22) rfl f3 (show _ = _ from f6) (hI.u0 hK rfl)
        refine .mf 7 rfl rfl rfl rfl rfl (by kernel_rfl) rfl ?_
        refine .cons (fun V Ld a W hLi hpre hR hI KK hK => ?_) ?_
        ·
         refine G_gw hI hR hpre 8 rfl rfl rfl rfl (by kernel_rfl) ?_
         have o3 := (hR.old 3 (by kernel_rfl)).trans (show _ = Value.int .i64 ((k : Int)) from rfl)
         exact G_move rfl (.tmp 3) rfl o3 (hI.u0 hK rfl)
        refine .cons (fun V Ld a W hLi hpre hR hI KK hK => ?_) ?_
        ·
         refine G_gw hI hR hpre 8 rfl rfl rfl rfl (by kernel_rfl) ?_
         have f9 := hI.ef hR hpre 9 rfl rfl rfl (by kernel_rfl)
         exact J_binOp rfl .gtr _ (.tmp 25) (.const (.int .i64 0)) _ rfl (by rw [f9]; exact bf_gtr _ _ _ _ W Z1.out) (hI.u0 hK rfl)
        refine .cons (fun V Ld a W hLi hpre hR hI KK hK => ?_) ?_
        ·
         refine G_gw hI hR hpre 8 rfl rfl rfl rfl (by kernel_rfl) ?_
         have f10 := hI.ef hR hpre 10 rfl rfl rfl (by kernel_rfl)
         exact G_move rfl (.tmp 26) rfl f10 (hI.u0 hK rfl)
        refine .un 11 rfl rfl rfl rfl (by kernel_rfl) rfl ?_
        refine .un 11 rfl rfl rfl rfl (by kernel_rfl) rfl ?_
        refine .un 11 rfl rfl rfl rfl (by kernel_rfl) rfl ?_
        refine .un 11 rfl rfl rfl rfl (by kernel_rfl) rfl ?_
        refine .un 11 rfl rfl rfl rfl (by kernel_rfl) rfl ?_
        refine .un 11 rfl rfl rfl rfl (by kernel_rfl) rfl ?_
        refine .un 11 rfl rfl rfl rfl (by kernel_rfl) rfl ?_
        refine .un 11 rfl rfl rfl rfl (by kernel_rfl) rfl ?_
        refine .un 11 rfl rfl rfl rfl (by kernel_rfl) rfl ?_
        refine .cons (fun V Ld a W hLi hpre hR hI KK hK => ?_) ?_
        ·
         refine G_gw hI hR hpre 8 rfl rfl rfl rfl (by kernel_rfl) ?_
         have f11 := hI.ef hR hpre 11 rfl rfl rfl (by kernel_rfl)
         exact G_pick rfl (.tmp 27) (.tmp 36) (.const (.bool false)) rfl f11 (show _ = _ from rfl) (hI.u0 hK rfl)
        refine .cons (fun V Ld a W hLi hpre hR hI KK hK => ?_) ?_
        ·
         have f8 := hI.ef hR hpre 8 rfl rfl rfl (by kernel_rfl)
         have f21 := hI.ef hR hpre 21 rfl rfl rfl (by kernel_rfl)
         exact G_pick rfl (.tmp 24) (.const (.bool true)) (.tmp 37) rfl f8 (show _ = _ from f21) (hI.u0 hK rfl)
        refine .mf 22 rfl rfl rfl rfl rfl (by kernel_rfl) rfl ?_
        refine .cons (fun V Ld a W hLi hpre hR hI KK hK => ?_) ?_
        ·
         refine G_gw hI hR hpre 23 rfl rfl rfl rfl (by kernel_rfl) ?_
         have o4 := (hR.old 4 (by kernel_rfl)).trans (show _ = Value.pointer (some ⟨wr.heap.size, 0, none⟩) from rfl)
         exact J_fieldAddr rfl _ (.tmp 4) 1 rfl (by rw [o4]; go_simp) (hI.u0 hK rfl)
        refine .cons (fun V Ld a W hLi hpre hR hI KK hK => ?_) ?_
        ·
         refine G_gw hI hR hpre 23 rfl rfl rfl rfl (by kernel_rfl) ?_
         have f24 := hI.ef hR hpre 24 rfl rfl rfl (by kernel_rfl)
         have c := (hI.st.bl.cell LV.out).trans VC.out.c1
         exact J_load rfl _ (.tmp 40) rfl (by rw [f24]; go_simp) (hI.u0 hK rfl)
        refine .cons (fun V Ld a W hLi hpre hR hI KK hK => ?_) ?_
        ·
         refine G_gw hI hR hpre 23 rfl rfl rfl rfl (by kernel_rfl) ?_
         have f25 := hI.ef hR hpre 25 rfl rfl rfl (by kernel_rfl)
         exact G_len rfl (.tmp 41) _ rfl (by rw [f25]; go_simp) (hI.u0 hK rfl)
        refine .cons (fun V Ld a W hLi hpre hR hI KK hK => ?_) ?_
        ·
         refine G_gw hI hR hpre 23 rfl rfl rfl rfl (by kernel_rfl) ?_
         have f26 := hI.ef hR hpre 26 rfl rfl rfl (by kernel_rfl)
         exact J_binOp rfl .lss _ (.tmp 42) (.const (.int .i64 1)) _ rfl (by rw [f26]; exact bf_lss _ _ _ _ W J3a.out) (hI.u0 hK rfl)
        refine .cons (fun V Ld a W hLi hpre hR hI KK hK => ?_) ?_
        ·
         have f23 := hI.ef hR hpre 23 rfl rfl rfl (by kernel_rfl)
         have f27 := hI.ef hR hpre 27 rfl rfl rfl (by kernel_rfl)
         exact G_pick rfl (.tmp 39) (.const (.bool true)) (.tmp 43) rfl f23 (show _ = _ from f27) (hI.u0 hK rfl)
        refine .mf 28 rfl rfl rfl rfl rfl (by kernel_rfl) rfl ?_
        refine .cons (fun V Ld a W hLi hpre hR hI KK hK => ?_) ?_
        ·
         refine G_gw hI hR hpre 29 rfl rfl rfl rfl (by kernel_rfl) ?_
         have o4 := (hR.old 4 (by kernel_rfl)).trans (show _ = Value.pointer (some ⟨wr.heap.size, 0, none⟩) from rfl)
         exact J_fieldAddr rfl _ (.tmp 4) 1 rfl (by rw [o4]; go_simp) (hI.u0 hK rfl)
        refine .cons (fun V Ld a W hLi hpre hR hI KK hK => ?_) ?_
        ·
         refine G_gw hI hR hpre 29 rfl rfl rfl rfl (by kernel_rfl) ?_
         have f30 := hI.ef hR hpre 30 rfl rfl rfl (by kernel_rfl)
         have c := (hI.st.bl.cell LV.out).trans VC.out.c1
         exact J_load rfl _ (.tmp 46) rfl (by rw [f30]; go_simp) (hI.u0 hK rfl)
        refine .cons (fun V Ld a W hLi hpre hR hI KK hK => ?_) ?_
        ·
         refine G_gw hI hR hpre 29 rfl rfl rfl rfl (by kernel_rfl) ?_
         have f31 := hI.ef hR hpre 31 rfl rfl rfl (by kernel_rfl)
         exact G_len rfl (.tmp 47) _ rfl (by rw [f31]; go_simp) (hI.u0 hK rfl)
        refine .cons (fun V Ld a W hLi hpre hR hI KK hK => ?_) ?_
        ·
         refine G_gw hI hR hpre 29 rfl rfl rfl rfl (by kernel_rfl) ?_
         have f32 := hI.ef hR hpre 32 rfl rfl rfl (by kernel_rfl)
         exact J_binOp rfl .gtr _ (.tmp 48) (.const (.int .i64 32)) _ rfl (by rw [f32]; exact bf_gtr _ _ _ _ W J3b.out) (hI.u0 hK rfl)
        refine .cons (fun V Ld a W hLi hpre hR hI KK hK => ?_) ?_
        ·
         have f29 := hI.ef hR hpre 29 rfl rfl rfl (by kernel_rfl)
         have f33 := hI.ef hR hpre 33 rfl rfl rfl (by kernel_rfl)
         exact G_pick rfl (.tmp 45) (.const (.bool true)) (.tmp 49) rfl f29 (show _ = _ from f33) (hI.u0 hK rfl)
        refine .mf 34 rfl rfl rfl rfl rfl (by kernel_rfl) rfl ?_
        refine .cons (fun V Ld a W hLi hpre hR hI KK hK => ?_) ?_
        ·
         refine G_gw hI hR hpre 35 rfl rfl rfl rfl (by kernel_rfl) ?_
         have o4 := (hR.old 4 (by kernel_rfl)).trans (show _ = Value.pointer (some ⟨wr.heap.size, 0, none⟩) from rfl)
         exact J_fieldAddr rfl _ (.tmp 4) 2 rfl (by rw [o4]; go_simp) (hI.u0 hK rfl)
        refine .cons (fun V Ld a W hLi hpre hR hI KK hK => ?_) ?_
        ·
         refine G_gw hI hR hpre 35 rfl rfl rfl rfl (by kernel_rfl) ?_
         have f36 := hI.ef hR hpre 36 rfl rfl rfl (by kernel_rfl)
         have c := (hI.st.bl.cell LV.out).trans VC.out.c2
         exact J_load rfl _ (.tmp 52) rfl (by rw [f36]; go_simp) (hI.u0 hK rfl)
        refine .cons (fun V Ld a W hLi hpre hR hI KK hK => ?_) ?_
        ·
         refine G_gw hI hR hpre 35 rfl rfl rfl rfl (by kernel_rfl) ?_
         have f37 := hI.ef hR hpre 37 rfl rfl rfl (by kernel_rfl)
         exact G_len rfl (.tmp 53) _ rfl (by rw [f37]; go_simp) (hI.u0 hK rfl)
        refine .cons (fun V Ld a W hLi hpre hR hI KK hK => ?_) ?_
        ·
         refine G_gw hI hR hpre 35 rfl rfl rfl rfl (by kernel_rfl) ?_
         have f38 := hI.ef hR hpre 38 rfl rfl rfl (by kernel_rfl)
         exact J_binOp rfl .gtr _ (.tmp 54) (.const (.int .i64 256)) _ rfl (by rw [f38]; exact bt_gtr _ _ _ _ W J4.out) (hI.u0 hK rfl)
        refine .cons (fun V Ld a W hLi hpre hR hI KK hK => ?_) trivial
        ·
         have f35 := hI.ef hR hpre 35 rfl rfl rfl (by kernel_rfl)
         have f39 := hI.ef hR hpre 39 rfl rfl rfl (by kernel_rfl)
         exact G_pick rfl (.tmp 51) (.const (.bool true)) (.tmp 55) rfl f35 (show _ = _ from f39) (hI.u0 hK rfl)
       case refine_3 =>
        intro V Ld w9 hLd hI
        have e9 : V 40 = .bool true := hI.val 40 _ rfl (hLd 40 (by decide))
        have hb9 := hI.st.bl
        clear hI hLd
        simp only [finL, putL, Act.put, Nat.reduceAdd]
        rw [e9]
        clear e9
        generalize V 0 = v0, V 1 = v1
        generalize V 2 = v2, V 3 = v3
        generalize V 4 = v4, V 5 = v5
        generalize V 6 = v6, V 7 = v7
        generalize V 8 = v8, V 9 = v9
        generalize V 10 = v10, V 11 = v11
        generalize V 12 = v12, V 13 = v13
        generalize V 14 = v14, V 15 = v15
        generalize V 16 = v16, V 17 = v17
        generalize V 18 = v18, V 19 = v19
        generalize V 20 = v20, V 21 = v21
        generalize V 22 = v22, V 23 = v23
        generalize V 24 = v24, V 25 = v25
        generalize V 26 = v26, V 27 = v27
        generalize V 28 = v28, V 29 = v29
        generalize V 30 = v30, V 31 = v31
        generalize V 32 = v32, V 33 = v33
        generalize V 34 = v34, V 35 = v35
        generalize V 36 = v36, V 37 = v37
        generalize V 38 = v38, V 39 = v39
        clear V
        simp only [List.setIfInBounds_toArray, List.set_cons_succ, List.set_cons_zero]
        go_wp2_with fail
        go_ret
        exact RetB.bool HV.out (below_trans HBW.out (below_trans hb0 hb9))
    ·
     have Z1 := Lib.hid (show (0 : Int) < (k : Int) by omega)
     obtain ⟨m, hm⟩ : ∃ m, k = m + 1 := ⟨k - 1, by omega⟩
     have hmC : m < C.length := by omega
     have hm2 : (0 : Int) ≤ (m : Int) := by omega
     have hm3 : (m : Int) < (C.length : Int) := by omega
     have HM := Lib.hid hm
     clear hm hz
     obtain ⟨b', off', y, e', -, -, y0, -, -, hy⟩ := (HC.out.below HBW.out).elem hmC
     obtain ⟨rfl, rfl⟩ : b = b' ∧ off = off' := by injection e' with e'; injection e' with e1 e2; exact ⟨e1, e2⟩
     have Y0 := Lib.hid y0
     clear e' y0
     by_cases q2 : (cAt C m).id < (cAt C k).id
     ·
      skip
      have Q2 := Lib.hid q2
      clear q2
      cases q3 : inI ((cAt C k).o.size : Int) 1 32 with
      | false =>
       have Q3 := Lib.hid q3
       clear q3
       by_cases qb : ((cAt C k).o.size : Int) < 1
       ·
        skip
        have QB := Lib.hid qb
        clear qb
        have HV := Lib.hid (HBAD.out _ hlt (cou_3 Q3.out))
        have J1a := Lib.hid (show (1 : Int) ≤ x.id from by rw [hx.id]; exact (inI_of Q1.out).1)
        have J1b := Lib.hid (show x.id ≤ (1048576 : Int) from by rw [hx.id]; exact (inI_of Q1.out).2)
        have J2 := Lib.hid (show y.id < x.id from by have := Q2.out; rw [hx.id, hy.id]; omega)
        have J3 := Lib.hid (show (x.o.size : Int) < 1 from by rw [hx.o]; exact QB.out)
        clear hx
        clear hy
        go_wp2_with fail
        refine gen_world fun w0 hw0 => ?_
        have hb0 : Below wr.heap.size wr w0 := by rw [hw0]; exact below_alloc _ _
        have VC := Lib.hid (show CouC w0 wr.heap.size x.id x.o (.slice x.A x.n x.c) from by rw [hw0]; exact CouC.new _ _ _ _)
        have LV := Lib.hid (show wr.heap.size < w0.heap.size from by rw [hw0]; simp)
        clear hw0
        replace Y0 := Lib.hid ((hb0.cell hbl).trans Y0.out)
        have LB := Lib.hid (Nat.lt_of_lt_of_le hbl hb0.size)
        refine wp_region_J2 (GI (R := Bl) [Pr.eq (.pointer (some ⟨wr.heap.size, 0, none⟩)), Pr.eq (.int .i64 (x.id)), Pr.eq (.bool false), Pr.eq (.bool false), Pr.eq (.pointer (some ⟨wr.heap.size, 0, none⟩)), Pr.eq (.int .i64 (x.id)), Pr.eq (.bool false), Pr.eq (.bool false), Pr.eq (.bool false), Pr.eq (.int .i64 ((k : Int))), Pr.eq (.bool true), Pr.eq (.bool true), Pr.eq (.pointer (some ⟨wr.heap.size, 0, none⟩)), Pr.eq (.int .i64 (x.id)), Pr.eq (.slice (some ⟨b, off, none⟩) C.length ca), Pr.eq (.int .i64 ((k : Int))), Pr.eq (.int .i64 ((m : Int))), Pr.eq (.pointer (some ⟨b, off + m * 3, none⟩)), Pr.eq (.pointer (some ⟨b, off + m * 3, none⟩)), Pr.eq (.int .i64 (y.id)), Pr.eq (.bool false), Pr.eq (.bool false), Pr.eq (.bool false), Pr.eq (.bool false), Pr.eq (.pointer (some ⟨wr.heap.size, 1, none⟩)), Pr.eq (.string (x.o)), Pr.eq (.int .i64 ((x.o.size : Int))), Pr.eq (.bool true), Pr.eq (.bool true), Pr.eq (.bool true), Pr.eq undef, Pr.eq undef, Pr.eq undef, Pr.eq undef, Pr.eq (.bool true), Pr.eq (.bool true), Pr.eq undef, Pr.eq undef, Pr.eq undef, Pr.eq undef, Pr.eq (.bool true)] (GrS w0)) (by kernel_rfl) (by kernel_rfl) (by kernel_rfl) ?_ ?_ ?_
        case refine_1 => exact fun V => GI.start (GrS.start _ _ _)
        case refine_2 =>
         refine .cons (fun V Ld a W hLi hpre hR hI KK hK => ?_) ?_
         ·
          have o4 := (hR.old 4 (by kernel_rfl)).trans (show _ = Value.pointer (some ⟨wr.heap.size, 0, none⟩) from rfl)
          exact J_fieldAddr rfl _ (.tmp 4) 0 rfl (by rw [o4]; go_simp) (hI.u0 hK rfl)
         refine .cons (fun V Ld a W hLi hpre hR hI KK hK => ?_) ?_
         ·
          have f0 := hI.ef hR hpre 0 rfl rfl rfl (by kernel_rfl)
          have c := (hI.st.bl.cell LV.out).trans VC.out.c0
          exact J_load rfl _ (.tmp 16) rfl (by rw [f0]; go_simp) (hI.u0 hK rfl)
         refine .cons (fun V Ld a W hLi hpre hR hI KK hK => ?_) ?_
         ·
          have f1 := hI.ef hR hpre 1 rfl rfl rfl (by kernel_rfl)
          exact J_binOp rfl .lss _ (.tmp 17) (.const (.int .i64 1)) _ rfl (by rw [f1]; exact bf_lss _ _ _ _ W J1a.out) (hI.u0 hK rfl)
         refine .mf 2 rfl rfl rfl rfl rfl (by kernel_rfl) rfl ?_
         refine .cons (fun V Ld a W hLi hpre hR hI KK hK => ?_) ?_
         ·
          refine G_gw hI hR hpre 3 rfl rfl rfl rfl (by kernel_rfl) ?_
          have o4 := (hR.old 4 (by kernel_rfl)).trans (show _ = Value.pointer (some ⟨wr.heap.size, 0, none⟩) from rfl)
          exact J_fieldAddr rfl _ (.tmp 4) 0 rfl (by rw [o4]; go_simp) (hI.u0 hK rfl)
         refine .cons (fun V Ld a W hLi hpre hR hI KK hK => ?_) ?_
         ·
          refine G_gw hI hR hpre 3 rfl rfl rfl rfl (by kernel_rfl) ?_
          have f4 := hI.ef hR hpre 4 rfl rfl rfl (by kernel_rfl)
          have c := (hI.st.bl.cell LV.out).trans VC.out.c0
          exact J_load rfl _ (.tmp 20) rfl (by rw [f4]; go_simp) (hI.u0 hK rfl)
         refine .cons (fun V Ld a W hLi hpre hR hI KK hK => ?_) ?_
         ·
          refine G_gw hI hR hpre 3 rfl rfl rfl rfl (by kernel_rfl) ?_
          have f5 := hI.ef hR hpre 5 rfl rfl rfl (by kernel_rfl)
          exact J_binOp rfl .gtr _ (.tmp 21) (.const (.int .i64 1048576)) _ rfl (by rw [f5]; exact bf_gtr _ _ _ _ W J1b.out) (hI.u0 hK rfl)
         refine .cons (fun V Ld a W hLi hpre hR hI KK hK => ?_) ?_
         ·
          have f3 := hI.ef hR hpre 3 rfl rfl rfl (by kernel_rfl)
          have f6 := hI.ef hR hpre 6 rfl rfl rfl (by kernel_rfl)
          exact G_pick rfl (.tmp 19) (.const (.bool true)) (.tmp 22) rfl f3 (show _ = _ from f6) (hI.u0 hK rfl)
         refine .mf 7 rfl rfl rfl rfl rfl (by kernel_rfl) rfl ?_
         refine .cons (fun V Ld a W hLi hpre hR hI KK hK => ?_) ?_
         ·
          refine G_gw hI hR hpre 8 rfl rfl rfl rfl (by kernel_rfl) ?_
          have o3 := (hR.old 3 (by kernel_rfl)).trans (show _ = Value.int .i64 ((k : Int)) from rfl)
          exact G_move rfl (.tmp 3) rfl o3 (hI.u0 hK rfl)
         refine .cons (fun V Ld a W hLi hpre hR hI KK hK => ?_) ?_
         ·
          refine G_gw hI hR hpre 8 rfl rfl rfl rfl (by kernel_rfl) ?_
          have f9 := hI.ef hR hpre 9 rfl rfl rfl (by kernel_rfl)
          exact J_binOp rfl .gtr _ (.tmp 25) (.const (.int .i64 0)) _ rfl (by rw [f9]; exact bt_gtr _ _ _ _ W Z1.out) (hI.u0 hK rfl)
         refine .cons (fun V Ld a W hLi hpre hR hI KK hK => ?_) ?_
         ·
          refine G_gw hI hR hpre 8 rfl rfl rfl rfl (by kernel_rfl) ?_
          have f10 := hI.ef hR hpre 10 rfl rfl rfl (by kernel_rfl)
          exact G_move rfl (.tmp 26) rfl f10 (hI.u0 hK rfl)
         refine .cons (fun V Ld a W hLi hpre hR hI KK hK => ?_) ?_
         ·
          refine G_gw hI hR hpre 11 rfl rfl rfl rfl (by kernel_rfl) ?_
          have o4 := (hR.old 4 (by kernel_rfl)).trans (show _ = Value.pointer (some ⟨wr.heap.size, 0, none⟩) from rfl)
          exact J_fieldAddr rfl _ (.tmp 4) 0 rfl (by rw [o4]; go_simp) (hI.u0 hK rfl)
         refine .cons (fun V Ld a W hLi hpre hR hI KK hK => ?_) ?_
         ·
          refine G_gw hI hR hpre 11 rfl rfl rfl rfl (by kernel_rfl) ?_
          have f12 := hI.ef hR hpre 12 rfl rfl rfl (by kernel_rfl)
          have c := (hI.st.bl.cell LV.out).trans VC.out.c0
          exact J_load rfl _ (.tmp 28) rfl (by rw [f12]; go_simp) (hI.u0 hK rfl)
         refine .cons (fun V Ld a W hLi hpre hR hI KK hK => ?_) ?_
         ·
          refine G_gw hI hR hpre 11 rfl rfl rfl rfl (by kernel_rfl) ?_
          have o0 := (hR.old 0 (by kernel_rfl)).trans (show _ = Value.slice (some ⟨b, off, none⟩) C.length ca from rfl)
          exact G_move rfl (.tmp 0) rfl o0 (hI.u0 hK rfl)
         refine .cons (fun V Ld a W hLi hpre hR hI KK hK => ?_) ?_
         ·
          refine G_gw hI hR hpre 11 rfl rfl rfl rfl (by kernel_rfl) ?_
          have o3 := (hR.old 3 (by kernel_rfl)).trans (show _ = Value.int .i64 ((k : Int)) from rfl)
          exact G_move rfl (.tmp 3) rfl o3 (hI.u0 hK rfl)
         refine .cons (fun V Ld a W hLi hpre hR hI KK hK => ?_) ?_
         ·
          refine G_gw hI hR hpre 11 rfl rfl rfl rfl (by kernel_rfl) ?_
          have f15 := hI.ef hR hpre 15 rfl rfl rfl (by kernel_rfl)
          exact J_binOp rfl .sub _ (.tmp 31) (.const (.int .i64 1)) _ rfl (by rw [f15]; exact b_prev _ _ W HM.out (by omega)) (hI.u0 hK rfl)
         refine .cons (fun V Ld a W hLi hpre hR hI KK hK => ?_) ?_
         ·
          refine G_gw hI hR hpre 11 rfl rfl rfl rfl (by kernel_rfl) ?_
          have f14 := hI.ef hR hpre 14 rfl rfl rfl (by kernel_rfl)
          have f16 := hI.ef hR hpre 16 rfl rfl rfl (by kernel_rfl)
          exact J_indexAddr rfl _ (.tmp 30) (.tmp 32) rfl (by rw [f14, f16]; go_simp) (hI.u0 hK rfl)
         refine .cons (fun V Ld a W hLi hpre hR hI KK hK => ?_) ?_
         ·
          refine G_gw hI hR hpre 11 rfl rfl rfl rfl (by kernel_rfl) ?_
          have f17 := hI.ef hR hpre 17 rfl rfl rfl (by kernel_rfl)
          exact J_fieldAddr rfl _ (.tmp 33) 0 rfl (by rw [f17]; go_simp) (hI.u0 hK rfl)
         refine .cons (fun V Ld a W hLi hpre hR hI KK hK => ?_) ?_
         ·
          refine G_gw hI hR hpre 11 rfl rfl rfl rfl (by kernel_rfl) ?_
          have f18 := hI.ef hR hpre 18 rfl rfl rfl (by kernel_rfl)
          have c := (hI.st.bl.cell LB.out).trans Y0.out
          exact J_load rfl _ (.tmp 34) rfl (by rw [f18]; go_simp) (hI.u0 hK rfl)
         refine .cons (fun V Ld a W hLi hpre hR hI KK hK => ?_) ?_
         ·
          refine G_gw hI hR hpre 11 rfl rfl rfl rfl (by kernel_rfl) ?_
          have f13 := hI.ef hR hpre 13 rfl rfl rfl (by kernel_rfl)
          have f19 := hI.ef hR hpre 19 rfl rfl rfl (by kernel_rfl)
          exact J_binOp rfl .leq _ (.tmp 29) (.tmp 35) _ rfl (by rw [f13, f19]; exact bf_leq _ _ _ _ W J2.out) (hI.u0 hK rfl)
         refine .cons (fun V Ld a W hLi hpre hR hI KK hK => ?_) ?_
         ·
          refine G_gw hI hR hpre 8 rfl rfl rfl rfl (by kernel_rfl) ?_
          have f11 := hI.ef hR hpre 11 rfl rfl rfl (by kernel_rfl)
          have f20 := hI.ef hR hpre 20 rfl rfl rfl (by kernel_rfl)
          exact G_pick rfl (.tmp 27) (.tmp 36) (.const (.bool false)) rfl f11 (show _ = _ from f20) (hI.u0 hK rfl)
         refine .cons (fun V Ld a W hLi hpre hR hI KK hK => ?_) ?_
         ·
          have f8 := hI.ef hR hpre 8 rfl rfl rfl (by kernel_rfl)
          have f21 := hI.ef hR hpre 21 rfl rfl rfl (by kernel_rfl)
          exact G_pick rfl (.tmp 24) (.const (.bool true)) (.tmp 37) rfl f8 (show _ = _ from f21) (hI.u0 hK rfl)
         refine .mf 22 rfl rfl rfl rfl rfl (by kernel_rfl) rfl ?_
         refine .cons (fun V Ld a W hLi hpre hR hI KK hK => ?_) ?_
         ·
          refine G_gw hI hR hpre 23 rfl rfl rfl rfl (by kernel_rfl) ?_
          have o4 := (hR.old 4 (by kernel_rfl)).trans (show _ = Value.pointer (some ⟨wr.heap.size, 0, none⟩) from rfl)
          exact J_fieldAddr rfl _ (.tmp 4) 1 rfl (by rw [o4]; go_simp) (hI.u0 hK rfl)
         refine .cons (fun V Ld a W hLi hpre hR hI KK hK => ?_) ?_
         ·
          refine G_gw hI hR hpre 23 rfl rfl rfl rfl (by kernel_rfl) ?_
          have f24 := hI.ef hR hpre 24 rfl rfl rfl (by kernel_rfl)
          have c := (hI.st.bl.cell LV.out).trans VC.out.c1
          exact J_load rfl _ (.tmp 40) rfl (by rw [f24]; go_simp) (hI.u0 hK rfl)
         refine .cons (fun V Ld a W hLi hpre hR hI KK hK => ?_) ?_
         ·
          refine G_gw hI hR hpre 23 rfl rfl rfl rfl (by kernel_rfl) ?_
          have f25 := hI.ef hR hpre 25 rfl rfl rfl (by kernel_rfl)
          exact G_len rfl (.tmp 41) _ rfl (by rw [f25]; go_simp) (hI.u0 hK rfl)
         refine .cons (fun V Ld a W hLi hpre hR hI KK hK => ?_) ?_
         ·
          refine G_gw hI hR hpre 23 rfl rfl rfl rfl (by kernel_rfl) ?_
          have f26 := hI.ef hR hpre 26 rfl rfl rfl (by kernel_rfl)
          exact J_binOp rfl .lss _ (.tmp 42) (.const (.int .i64 1)) _ rfl (by rw [f26]; exact bt_lss _ _ _ _ W J3.out) (hI.u0 hK rfl)
         refine .cons (fun V Ld a W hLi hpre hR hI KK hK => ?_) ?_
         ·
          have f23 := hI.ef hR hpre 23 rfl rfl rfl (by kernel_rfl)
          have f27 := hI.ef hR hpre 27 rfl rfl rfl (by kernel_rfl)
          exact G_pick rfl (.tmp 39) (.const (.bool true)) (.tmp 43) rfl f23 (show _ = _ from f27) (hI.u0 hK rfl)
         refine .mf 28 rfl rfl rfl rfl rfl (by kernel_rfl) rfl ?_
         refine .un 29 rfl rfl rfl rfl (by kernel_rfl) rfl ?_
         refine .un 29 rfl rfl rfl rfl (by kernel_rfl) rfl ?_
         refine .un 29 rfl rfl rfl rfl (by kernel_rfl) rfl ?_
         refine .un 29 rfl rfl rfl rfl (by kernel_rfl) rfl ?_
         refine .cons (fun V Ld a W hLi hpre hR hI KK hK => ?_) ?_
         ·
          have f29 := hI.ef hR hpre 29 rfl rfl rfl (by kernel_rfl)
          exact G_pick rfl (.tmp 45) (.const (.bool true)) (.tmp 49) rfl f29 (show _ = _ from rfl) (hI.u0 hK rfl)
         refine .mf 34 rfl rfl rfl rfl rfl (by kernel_rfl) rfl ?_
         refine .un 35 rfl rfl rfl rfl (by kernel_rfl) rfl ?_
         refine .un 35 rfl rfl rfl rfl (by kernel_rfl) rfl ?_
         refine .un 35 rfl rfl rfl rfl (by kernel_rfl) rfl ?_
         refine .un 35 rfl rfl rfl rfl (by kernel_rfl) rfl ?_
         refine .cons (fun V Ld a W hLi hpre hR hI KK hK => ?_) trivial
         ·
          have f35 := hI.ef hR hpre 35 rfl rfl rfl (by kernel_rfl)
          exact G_pick rfl (.tmp 51) (.const (.bool true)) (.tmp 55) rfl f35 (show _ = _ from rfl) (hI.u0 hK rfl)
        case refine_3 =>
         intro V Ld w9 hLd hI
         have e9 : V 40 = .bool true := hI.val 40 _ rfl (hLd 40 (by decide))
         have hb9 := hI.st.bl
         clear hI hLd
         simp only [finL, putL, Act.put, Nat.reduceAdd]
         rw [e9]
         clear e9
         generalize V 0 = v0, V 1 = v1
         generalize V 2 = v2, V 3 = v3
         generalize V 4 = v4, V 5 = v5
         generalize V 6 = v6, V 7 = v7
         generalize V 8 = v8, V 9 = v9
         generalize V 10 = v10, V 11 = v11
         generalize V 12 = v12, V 13 = v13
         generalize V 14 = v14, V 15 = v15
         generalize V 16 = v16, V 17 = v17
         generalize V 18 = v18, V 19 = v19
         generalize V 20 = v20, V 21 = v21
         generalize V 22 = v22, V 23 = v23
         generalize V 24 = v24, V 25 = v25
         generalize V 26 = v26, V 27 = v27
         generalize V 28 = v28, V 29 = v29
         generalize V 30 = v30, V 31 = v31
         generalize V 32 = v32, V 33 = v33
         generalize V 34 = v34, V 35 = v35
         generalize V 36 = v36, V 37 = v37
         generalize V 38 = v38, V 39 = v39
         clear V
         simp only [List.setIfInBounds_toArray, List.set_cons_succ, List.set_cons_zero]
         go_wp2_with fail
         go_ret
         exact RetB.bool HV.out (below_trans HBW.out (below_trans hb0 hb9))
       ·
        skip
        have QB := Lib.hid (show (1 : Int) ≤ ((cAt C k).o.size : Int) by omega)
        clear qb
        have HV := Lib.hid (HBAD.out _ hlt (cou_3 Q3.out))
        have J1a := Lib.hid (show (1 : Int) ≤ x.id from by rw [hx.id]; exact (inI_of Q1.out).1)
        have J1b := Lib.hid (show x.id ≤ (1048576 : Int) from by rw [hx.id]; exact (inI_of Q1.out).2)
        have J2 := Lib.hid (show y.id < x.id from by have := Q2.out; rw [hx.id, hy.id]; omega)
        have J3a := Lib.hid (show (1 : Int) ≤ (x.o.size : Int) from by rw [hx.o]; exact QB.out)
        have J3 := Lib.hid (show (32 : Int) < (x.o.size : Int) from by rw [hx.o]; have h := inI_no Q3.out; have := QB.out; omega)
        clear hx
        clear hy
        go_wp2_with fail
        refine gen_world fun w0 hw0 => ?_
        have hb0 : Below wr.heap.size wr w0 := by rw [hw0]; exact below_alloc _ _
        have VC := Lib.hid (show CouC w0 wr.heap.size x.id x.o (.slice x.A x.n x.c) from by rw [hw0]; exact CouC.new _ _ _ _)
        have LV := Lib.hid (show wr.heap.size < w0.heap.size from by rw [hw0]; simp)
        clear hw0
        replace Y0 := Lib.hid ((hb0.cell hbl).trans Y0.out)
        have LB := Lib.hid (Nat.lt_of_lt_of_le hbl hb0.size)
        refine wp_region_J2 (GI (R := Bl) [Pr.eq (.pointer (some ⟨wr.heap.size, 0, none⟩)), Pr.eq (.int .i64 (x.id)), Pr.eq (.bool false), Pr.eq (.bool false), Pr.eq (.pointer (some ⟨wr.heap.size, 0, none⟩)), Pr.eq (.int .i64 (x.id)), Pr.eq (.bool false), Pr.eq (.bool false), Pr.eq (.bool false), Pr.eq (.int .i64 ((k : Int))), Pr.eq (.bool true), Pr.eq (.bool true), Pr.eq (.pointer (some ⟨wr.heap.size, 0, none⟩)), Pr.eq (.int .i64 (x.id)), Pr.eq (.slice (some ⟨b, off, none⟩) C.length ca), Pr.eq (.int .i64 ((k : Int))), Pr.eq (.int .i64 ((m : Int))), Pr.eq (.pointer (some ⟨b, off + m * 3, none⟩)), Pr.eq (.pointer (some ⟨b, off + m * 3, none⟩)), Pr.eq (.int .i64 (y.id)), Pr.eq (.bool false), Pr.eq (.bool false), Pr.eq (.bool false), Pr.eq (.bool false), Pr.eq (.pointer (some ⟨wr.heap.size, 1, none⟩)), Pr.eq (.string (x.o)), Pr.eq (.int .i64 ((x.o.size : Int))), Pr.eq (.bool false), Pr.eq (.bool false), Pr.eq (.bool false), Pr.eq (.pointer (some ⟨wr.heap.size, 1, none⟩)), Pr.eq (.string (x.o)), Pr.eq (.int .i64 ((x.o.size : Int))), Pr.eq (.bool true), Pr.eq (.bool true), Pr.eq (.bool true), Pr.eq undef, Pr.eq undef, Pr.eq undef, Pr.eq undef, Pr.eq (.bool true)] (GrS w0)) (by kernel_rfl) (by kernel_rfl) (by kernel_rfl) ?_ ?_ ?_
        case refine_1 => exact fun V => GI.start (GrS.start _ _ _)
        case refine_2 =>
         refine .cons (fun V Ld a W hLi hpre hR hI KK hK => ?_) ?_
         ·
          have o4 := (hR.old 4 (by kernel_rfl)).trans (show _ = Value.pointer (some ⟨wr.heap.size, 0, none⟩) from rfl)
          exact J_fieldAddr rfl _ (.tmp 4) 0 rfl (by rw [o4]; go_simp) (hI.u0 hK rfl)
         refine .cons (fun V Ld a W hLi hpre hR hI KK hK => ?_) ?_
         ·
          have f0 := hI.ef hR hpre 0 rfl rfl rfl (by kernel_rfl)
          have c := (hI.st.bl.cell LV.out).trans VC.out.c0
          exact J_load rfl _ (.tmp 16) rfl (by rw [f0]; go_simp) (hI.u0 hK rfl)
         refine .cons (fun V Ld a W hLi hpre hR hI KK hK => ?_) ?_
         ·
          have f1 := hI.ef hR hpre 1 rfl rfl rfl (by kernel_rfl)
          exact J_binOp rfl .lss _ (.tmp 17) (.const (.int .i64 1)) _ rfl (by rw [f1]; exact bf_lss _ _ _ _ W J1a.out) (hI.u0 hK rfl)
         refine .mf 2 rfl rfl rfl rfl rfl (by kernel_rfl) rfl ?_
         refine .cons (fun V Ld a W hLi hpre hR hI KK hK => ?_) ?_
         ·
          refine G_gw hI hR hpre 3 rfl rfl rfl rfl (by kernel_rfl) ?_
          have o4 := (hR.old 4 (by kernel_rfl)).trans (show _ = Value.pointer (some ⟨wr.heap.size, 0, none⟩) from rfl)
          exact J_fieldAddr rfl _ (.tmp 4) 0 rfl (by rw [o4]; go_simp) (hI.u0 hK rfl)
         refine .cons (fun V Ld a W hLi hpre hR hI KK hK => ?_) ?_
         ·
          refine G_gw hI hR hpre 3 rfl rfl rfl rfl (by kernel_rfl) ?_
          have f4 := hI.ef hR hpre 4 rfl rfl rfl (by kernel_rfl)
          have c := (hI.st.bl.cell LV.out).trans VC.out.c0
          exact J_load rfl _ (.tmp 20) rfl (by rw [f4]; go_simp) (hI.u0 hK rfl)
         refine .cons (fun V Ld a W hLi hpre hR hI KK hK => ?_) ?_
         ·
          refine G_gw hI hR hpre 3 rfl rfl rfl rfl (by kernel_rfl) ?_
          have f5 := hI.ef hR hpre 5 rfl rfl rfl (by kernel_rfl)
          exact J_binOp rfl .gtr _ (.tmp 21) (.const (.int .i64 1048576)) _ rfl (by rw [f5]; exact bf_gtr _ _ _ _ W J1b.out) (hI.u0 hK rfl)
         refine .cons (fun V Ld a W hLi hpre hR hI KK hK => ?_) ?_
         ·
          have f3 := hI.ef hR hpre 3 rfl rfl rfl (by kernel_rfl)
          have f6 := hI.ef hR hpre 6 rfl rfl rfl (by kernel_rfl)
          exact G_pick rfl (.tmp 19) (.const (.bool true)) (.tmp 22) rfl f3 (show _ = _ from f6) (hI.u0 hK rfl)
         refine .mf 7 rfl rfl rfl rfl rfl (by kernel_rfl) rfl ?_
         refine .cons (fun V Ld a W hLi hpre hR hI KK hK => ?_) ?_
         ·
          refine G_gw hI hR hpre 8 rfl rfl rfl rfl (by kernel_rfl) ?_
          have o3 := (hR.old 3 (by kernel_rfl)).trans (show _ = Value.int .i64 ((k : Int)) from rfl)
          exact G_move rfl (.tmp 3) rfl o3 (hI.u0 hK rfl)
         refine .cons (fun V Ld a W hLi hpre hR hI KK hK => ?_) ?_
         ·
          refine G_gw hI hR hpre 8 rfl rfl rfl rfl (by kernel_rfl) ?_
          have f9 := hI.ef hR hpre 9 rfl rfl rfl (by kernel_rfl)
          exact J_binOp rfl .gtr _ (.tmp 25) (.const (.int .i64 0)) _ rfl (by rw [f9]; exact bt_gtr _ _ _ _ W Z1.out) (hI.u0 hK rfl)
         refine .cons (fun V Ld a W hLi hpre hR hI KK hK => ?_) ?_
         ·
          refine G_gw hI hR hpre 8 rfl rfl rfl rfl (by kernel_rfl) ?_
          have f10 := hI.ef hR hpre 10 rfl rfl rfl (by kernel_rfl)
          exact G_move rfl (.tmp 26) rfl f10 (hI.u0 hK rfl)
         refine .cons (fun V Ld a W hLi hpre hR hI KK hK => ?_) ?_
         ·
          refine G_gw hI hR hpre 11 rfl rfl rfl rfl (by kernel_rfl) ?_
          have o4 := (hR.old 4 (by kernel_rfl)).trans (show _ = Value.pointer (some ⟨wr.heap.size, 0, none⟩) from rfl)
          exact J_fieldAddr rfl _ (.tmp 4) 0 rfl (by rw [o4]; go_simp) (hI.u0 hK rfl)
         refine .cons (fun V Ld a W hLi hpre hR hI KK hK => ?_) ?_
         ·
          refine G_gw hI hR hpre 11 rfl rfl rfl rfl (by kernel_rfl) ?_
          have f12 := hI.ef hR hpre 12 rfl rfl rfl (by kernel_rfl)
          have c := (hI.st.bl.cell LV.out).trans VC.out.c0
          exact J_load rfl _ (.tmp 28) rfl (by rw [f12]; go_simp) (hI.u0 hK rfl)
         refine .cons (fun V Ld a W hLi hpre hR hI KK hK => ?_) ?_
         ·
          refine G_gw hI hR hpre 11 rfl rfl rfl rfl (by kernel_rfl) ?_
          have o0 := (hR.old 0 (by kernel_rfl)).trans (show _ = Value.slice (some ⟨b, off, none⟩) C.length ca from rfl)
          exact G_move rfl (.tmp 0) rfl o0 (hI.u0 hK rfl)
         refine .cons (fun V Ld a W hLi hpre hR hI KK hK => ?_) ?_
         ·
          refine G_gw hI hR hpre 11 rfl rfl rfl rfl (by kernel_rfl) ?_
          have o3 := (hR.old 3 (by kernel_rfl)).trans (show _ = Value.int .i64 ((k : Int)) from rfl)
          exact G_move rfl (.tmp 3) rfl o3 (hI.u0 hK rfl)
         refine .cons (fun V Ld a W hLi hpre hR hI KK hK => ?_) ?_
         ·
          refine G_gw hI hR hpre 11 rfl rfl rfl rfl (by kernel_rfl) ?_
          have f15 := hI.ef hR hpre 15 rfl rfl rfl (by kernel_rfl)
          exact J_binOp rfl .sub _ (.tmp 31) (.const (.int .i64 1)) _ rfl (by rw [f15]; exact b_prev _ _ W HM.out (by omega)) (hI.u0 hK rfl)
         refine .cons (fun V Ld a W hLi hpre hR hI KK hK => ?_) ?_
         ·
          refine G_gw hI hR hpre 11 rfl rfl rfl rfl (by kernel_rfl) ?_
          have f14 := hI.ef hR hpre 14 rfl rfl rfl (by kernel_rfl)
          have f16 := hI.ef hR hpre 16 rfl rfl rfl (by kernel_rfl)
          exact J_indexAddr rfl _ (.tmp 30) (.tmp 32) rfl (by rw [f14, f16]; go_simp) (hI.u0 hK rfl)
         refine .cons (fun V Ld a W hLi hpre hR hI KK hK => ?_) ?_
         ·
          refine G_gw hI hR hpre 11 rfl rfl rfl rfl (by kernel_rfl) ?_
          have f17 := hI.ef hR hpre 17 rfl rfl rfl (by kernel_rfl)
          exact J_fieldAddr rfl _ (.tmp 33) 0 rfl (by rw [f17]; go_simp) (hI.u0 hK rfl)
         refine .cons (fun V Ld a W hLi hpre hR hI KK hK => ?_) ?_
         ·
          refine G_gw hI hR hpre 11 rfl rfl rfl rfl (by kernel_rfl) ?_
          have f18 := hI.ef hR hpre 18 rfl rfl rfl (by kernel_rfl)
          have c := (hI.st.bl.cell LB.out).trans Y0.out
          exact J_load rfl _ (.tmp 34) rfl (by rw [f18]; go_simp) (hI.u0 hK rfl)
         refine .cons (fun V Ld a W hLi hpre hR hI KK hK => ?_) ?_
         ·
          refine G_gw hI hR hpre 11 rfl rfl rfl rfl (by kernel_rfl) ?_
          have f13 := hI.ef hR hpre 13 rfl rfl rfl (by kernel_rfl)
          have f19 := hI.ef hR hpre 19 rfl rfl rfl (by kernel_rfl)
          exact J_binOp rfl .leq _ (.tmp 29) (.tmp 35) _ rfl (by rw [f13, f19]; exact bf_leq _ _ _ _ W J2.out) (hI.u0 hK rfl)
         refine .cons (fun V Ld a W hLi hpre hR hI KK hK => ?_) ?_
         ·
          refine G_gw hI hR hpre 8 rfl rfl rfl rfl (by kernel_rfl) ?_
          have f11 := hI.ef hR hpre 11 rfl rfl rfl (by kernel_rfl)
          have f20 := hI.ef hR hpre 20 rfl rfl rfl (by kernel_rfl)
          exact G_pick rfl (.tmp 27) (.tmp 36) (.const (.bool false)) rfl f11 (show _ = _ from f20) (hI.u0 hK rfl)
         refine .cons (fun V Ld a W hLi hpre hR hI KK hK => ?_) ?_
         ·
          have f8 := hI.ef hR hpre 8 rfl rfl rfl (by kernel_rfl)
          have f21 := hI.ef hR hpre 21 rfl rfl rfl (by kernel_rfl)
          exact G_pick rfl (.tmp 24) (.const (.bool true)) (.tmp 37) rfl f8 (show _ = _ from f21) (hI.u0 hK rfl)
         refine .mf 22 rfl rfl rfl rfl rfl (by kernel_rfl) rfl ?_
         refine .cons (fun V Ld a W hLi hpre hR hI KK hK => ?_) ?_
         ·
          refine G_gw hI hR hpre 23 rfl rfl rfl rfl (by kernel_rfl) ?_
          have o4 := (hR.old 4 (by kernel_rfl)).trans (show _ = Value.pointer (some ⟨wr.heap.size, 0, none⟩) from rfl)
          exact J_fieldAddr rfl _ (.tmp 4) 1 rfl (by rw [o4]; go_simp) (hI.u0 hK rfl)
         refine .cons (fun V Ld a W hLi hpre hR hI KK hK => ?_) ?_
         ·
          refine G_gw hI hR hpre 23 rfl rfl rfl rfl (by kernel_rfl) ?_
          have f24 := hI.ef hR hpre 24 rfl rfl rfl (by kernel_rfl)
          have c := (hI.st.bl.cell LV.out).trans VC.out.c1
          exact J_load rfl _ (.tmp 40) rfl (by rw [f24]; go_simp) (hI.u0 hK rfl)
         refine .cons (fun V Ld a W hLi hpre hR hI KK hK => ?_) ?_
         ·
          refine G_gw hI hR hpre 23 rfl rfl rfl rfl (by kernel_rfl) ?_
          have f25 := hI.ef hR hpre 25 rfl rfl rfl (by kernel_rfl)
          exact G_len rfl (.tmp 41) _ rfl (by rw [f25]; go_simp) (hI.u0 hK rfl)
         refine .cons (fun V Ld a W hLi hpre hR hI KK hK => ?_) ?_
         ·
          refine G_gw hI hR hpre 23 rfl rfl rfl rfl (by kernel_rfl) ?_
          have f26 := hI.ef hR hpre 26 rfl rfl rfl (by kernel_rfl)
          exact J_binOp rfl .lss _ (.tmp 42) (.const (.int .i64 1)) _ rfl (by rw [f26]; exact bf_lss _ _ _ _ W J3a.out) (hI.u0 hK rfl)
         refine .cons (fun V Ld a W hLi hpre hR hI KK hK => ?_) ?_
         ·
          have f23 := hI.ef hR hpre 23 rfl rfl rfl (by kernel_rfl)
          have f27 := hI.ef hR hpre 27 rfl rfl rfl (by kernel_rfl)
          exact G_pick rfl (.tmp 39) (.const (.bool true)) (.tmp 43) rfl f23 (show _ = _ from f27) (hI.u0 hK rfl)
         refine .mf 28 rfl rfl rfl rfl rfl (by kernel_rfl) rfl ?_
         refine .cons (fun V Ld a W hLi hpre hR hI KK hK => ?_) ?_
         ·
          refine G_gw hI hR hpre 29 rfl rfl rfl rfl (by kernel_rfl) ?_
          have o4 := (hR.old 4 (by kernel_rfl)).trans (show _ = Value.pointer (some ⟨wr.heap.size, 0, none⟩) from rfl)
          exact J_fieldAddr rfl _ (.tmp 4) 1 rfl (by rw [o4]; go_simp) (hI.u0 hK rfl)
         refine .cons (fun V Ld a W hLi hpre hR hI KK hK => ?_) ?_
         ·
          refine G_gw hI hR hpre 29 rfl rfl rfl rfl (by kernel_rfl) ?_
          have f30 := hI.ef hR hpre 30 rfl rfl rfl (by kernel_rfl)
          have c := (hI.st.bl.cell LV.out).trans VC.out.c1
          exact J_load rfl _ (.tmp 46) rfl (by rw [f30]; go_simp) (hI.u0 hK rfl)
         refine .cons (fun V Ld a W hLi hpre hR hI KK hK => ?_) ?_
         ·
          refine G_gw hI hR hpre 29 rfl rfl rfl rfl (by kernel_rfl) ?_
          have f31 := hI.ef hR hpre 31 rfl rfl rfl (by kernel_rfl)
          exact G_len rfl (.tmp 47) _ rfl (by rw [f31]; go_simp) (hI.u0 hK rfl)
         refine .cons (fun V Ld a W hLi hpre hR hI KK hK => ?_) ?_
         ·
          refine G_gw hI hR hpre 29 rfl rfl rfl rfl (by kernel_rfl) ?_
          have f32 := hI.ef hR hpre 32 rfl rfl rfl (by kernel_rfl)
          exact J_binOp rfl .gtr _ (.tmp 48) (.const (.int .i64 32)) _ rfl (by rw [f32]; exact bt_gtr _ _ _ _ W J3.out) (hI.u0 hK rfl)
         refine .cons (fun V Ld a W hLi hpre hR hI KK hK => ?_) ?_
         ·
          have f29 := hI.ef hR hpre 29 rfl rfl rfl (by kernel_rfl)
          have f33 := hI.ef hR hpre 33 rfl rfl rfl (by kernel_rfl)
          exact G_pick rfl (.tmp 45) (.const (.bool true)) (.tmp 49) rfl f29 (show _ = _ from f33) (hI.u0 hK rfl)
         refine .mf 34 rfl rfl rfl rfl rfl (by kernel_rfl) rfl ?_
         refine .un 35 rfl rfl rfl rfl (by kernel_rfl) rfl ?_
         refine .un 35 rfl rfl rfl rfl (by kernel_rfl) rfl ?_
         refine .un 35 rfl rfl rfl rfl (by kernel_rfl) rfl ?_
         refine .un 35 rfl rfl rfl rfl (by kernel_rfl) rfl ?_
         refine .cons (fun V Ld a W hLi hpre hR hI KK hK => ?_) trivial
         ·
          have f35 := hI.ef hR hpre 35 rfl rfl rfl (by kernel_rfl)
          exact G_pick rfl (.tmp 51) (.const (.bool true)) (.tmp 55) rfl f35 (show _ = _ from rfl) (hI.u0 hK rfl)
        case refine_3 =>
         intro V Ld w9 hLd hI
         have e9 : V 40 = .bool true := hI.val 40 _ rfl (hLd 40 (by decide))
         have hb9 := hI.st.bl
         clear hI hLd
         simp only [finL, putL, Act.put, Nat.reduceAdd]
         rw [e9]
         clear e9
         generalize V 0 = v0, V 1 = v1
         generalize V 2 = v2, V 3 = v3
         generalize V 4 = v4, V 5 = v5
         generalize V 6 = v6, V 7 = v7
         generalize V 8 = v8, V 9 = v9
         generalize V 10 = v10, V 11 = v11
         generalize V 12 = v12, V 13 = v13
         generalize V 14 = v14, V 15 = v15
         generalize V 16 = v16, V 17 = v17
         generalize V 18 = v18, V 19 = v19
         generalize V 20 = v20, V 21 = v21
         generalize V 22 = v22, V 23 = v23
         generalize V 24 = v24, V 25 = v25
         generalize V 26 = v26, V 27 = v27
         generalize V 28 = v28, V 29 = v29
         generalize V 30 = v30, V 31 = v31
         generalize V 32 = v32, V 33 = v33
         generalize V 34 = v34, V 35 = v35
         generalize V 36 = v36, V 37 = v37
         generalize V 38 = v38, V 39 = v39
         clear V
         simp only [List.setIfInBounds_toArray, List.set_cons_succ, List.set_cons_zero]
         go_wp2_with fail
         go_ret
         exact RetB.bool HV.out (below_trans HBW.out (below_trans hb0 hb9))
      | true =>
       have Q3 := Lib.hid q3
       clear q3
       by_cases q4 : (cAt C k).away.length ≤ 256
       ·
        skip
        have Q4 := Lib.hid q4
        clear q4
        have J1a := Lib.hid (show (1 : Int) ≤ x.id from by rw [hx.id]; exact (inI_of Q1.out).1)
        have J1b := Lib.hid (show x.id ≤ (1048576 : Int) from by rw [hx.id]; exact (inI_of Q1.out).2)
        have J2 := Lib.hid (show y.id < x.id from by have := Q2.out; rw [hx.id, hy.id]; omega)
        have J3a := Lib.hid (show (1 : Int) ≤ (x.o.size : Int) from by rw [hx.o]; exact (inI_of Q3.out).1)
        have J3b := Lib.hid (show (x.o.size : Int) ≤ (32 : Int) from by rw [hx.o]; exact (inI_of Q3.out).2)
        have J4 := Lib.hid (show (x.n : Int) ≤ 256 from by have := Q4.out; have := hx.n; omega)
        clear hy
        go_wp2_with fail
        refine gen_world fun w0 hw0 => ?_
        have hb0 : Below wr.heap.size wr w0 := by rw [hw0]; exact below_alloc _ _
        have VC := Lib.hid (show CouC w0 wr.heap.size x.id x.o (.slice x.A x.n x.c) from by rw [hw0]; exact CouC.new _ _ _ _)
        have LV := Lib.hid (show wr.heap.size < w0.heap.size from by rw [hw0]; simp)
        clear hw0
        replace Y0 := Lib.hid ((hb0.cell hbl).trans Y0.out)
        have LB := Lib.hid (Nat.lt_of_lt_of_le hbl hb0.size)
        refine wp_region_J2 (GI (R := Bl) [Pr.eq (.pointer (some ⟨wr.heap.size, 0, none⟩)), Pr.eq (.int .i64 (x.id)), Pr.eq (.bool false), Pr.eq (.bool false), Pr.eq (.pointer (some ⟨wr.heap.size, 0, none⟩)), Pr.eq (.int .i64 (x.id)), Pr.eq (.bool false), Pr.eq (.bool false), Pr.eq (.bool false), Pr.eq (.int .i64 ((k : Int))), Pr.eq (.bool true), Pr.eq (.bool true), Pr.eq (.pointer (some ⟨wr.heap.size, 0, none⟩)), Pr.eq (.int .i64 (x.id)), Pr.eq (.slice (some ⟨b, off, none⟩) C.length ca), Pr.eq (.int .i64 ((k : Int))), Pr.eq (.int .i64 ((m : Int))), Pr.eq (.pointer (some ⟨b, off + m * 3, none⟩)), Pr.eq (.pointer (some ⟨b, off + m * 3, none⟩)), Pr.eq (.int .i64 (y.id)), Pr.eq (.bool false), Pr.eq (.bool false), Pr.eq (.bool false), Pr.eq (.bool false), Pr.eq (.pointer (some ⟨wr.heap.size, 1, none⟩)), Pr.eq (.string (x.o)), Pr.eq (.int .i64 ((x.o.size : Int))), Pr.eq (.bool false), Pr.eq (.bool false), Pr.eq (.bool false), Pr.eq (.pointer (some ⟨wr.heap.size, 1, none⟩)), Pr.eq (.string (x.o)), Pr.eq (.int .i64 ((x.o.size : Int))), Pr.eq (.bool false), Pr.eq (.bool false), Pr.eq (.bool false), Pr.eq (.pointer (some ⟨wr.heap.size, 2, none⟩)), Pr.eq (.slice x.A x.n x.c), Pr.eq (.int .i64 ((x.n : Int))), Pr.eq (.bool false), Pr.eq (.bool false)] (GrS w0)) (by kernel_rfl) (by kernel_rfl) (by kernel_rfl) ?_ ?_ ?_
        case refine_1 => exact fun V => GI.start (GrS.start _ _ _)
        case refine_2 =>
         refine .cons (fun V Ld a W hLi hpre hR hI KK hK => ?_) ?_
         ·
          have o4 := (hR.old 4 (by kernel_rfl)).trans (show _ = Value.pointer (some ⟨wr.heap.size, 0, none⟩) from rfl)
          exact J_fieldAddr rfl _ (.tmp 4) 0 rfl (by rw [o4]; go_simp) (hI.u0 hK rfl)
         refine .cons (fun V Ld a W hLi hpre hR hI KK hK => ?_) ?_
         ·
          have f0 := hI.ef hR hpre 0 rfl rfl rfl (by kernel_rfl)
          have c := (hI.st.bl.cell LV.out).trans VC.out.c0
          exact J_load rfl _ (.tmp 16) rfl (by rw [f0]; go_simp) (hI.u0 hK rfl)
         refine .cons (fun V Ld a W hLi hpre hR hI KK hK => ?_) ?_
         ·
          have f1 := hI.ef hR hpre 1 rfl rfl rfl (by kernel_rfl)
          exact J_binOp rfl .lss _ (.tmp 17) (.const (.int .i64 1)) _ rfl (by rw [f1]; exact bf_lss _ _ _ _ W J1a.out) (hI.u0 hK rfl)
         refine .mf 2 rfl rfl rfl rfl rfl (by kernel_rfl) rfl ?_
         refine .cons (fun V Ld a W hLi hpre hR hI KK hK => ?_) ?_
         ·
          refine G_gw hI hR hpre 3 rfl rfl rfl rfl (by kernel_rfl) ?_
          have o4 := (hR.old 4 (by kernel_rfl)).trans (show _ = Value.pointer (some ⟨wr.heap.size, 0, none⟩) from rfl)
          exact J_fieldAddr rfl _ (.tmp 4) 0 rfl (by rw [o4]; go_simp) (hI.u0 hK rfl)
         refine .cons (fun V Ld a W hLi hpre hR hI KK hK => ?_) ?_
         ·
          refine G_gw hI hR hpre 3 rfl rfl rfl rfl (by kernel_rfl) ?_
          have f4 := hI.ef hR hpre 4 rfl rfl rfl (by kernel_rfl)
          have c := (hI.st.bl.cell LV.out).trans VC.out.c0
          exact J_load rfl _ (.tmp 20) rfl (by rw [f4]; go_simp) (hI.u0 hK rfl)
         refine .cons (fun V Ld a W hLi hpre hR hI KK hK => ?_) ?_
         ·
          refine G_gw hI hR hpre 3 rfl rfl rfl rfl (by kernel_rfl) ?_
          have f5 := hI.ef hR hpre 5 rfl rfl rfl (by kernel_rfl)
          exact J_binOp rfl .gtr _ (.tmp 21) (.const (.int .i64 1048576)) _ rfl (by rw [f5]; exact bf_gtr _ _ _ _ W J1b.out) (hI.u0 hK rfl)
         refine .cons (fun V Ld a W hLi hpre hR hI KK hK => ?_) ?_
         ·
          have f3 := hI.ef hR hpre 3 rfl rfl rfl (by kernel_rfl)
          have f6 := hI.ef hR hpre 6 rfl rfl rfl (by kernel_rfl)
          exact G_pick rfl (.tmp 19) (.const (.bool true)) (.tmp 22) rfl f3 (show _ = _ from f6) (hI.u0 hK rfl)
         refine .mf 7 rfl rfl rfl rfl rfl (by kernel_rfl) rfl ?_
         refine .cons (fun V Ld a W hLi hpre hR hI KK hK => ?_) ?_
         ·
          refine G_gw hI hR hpre 8 rfl rfl rfl rfl (by kernel_rfl) ?_
          have o3 := (hR.old 3 (by kernel_rfl)).trans (show _ = Value.int .i64 ((k : Int)) from rfl)
          exact G_move rfl (.tmp 3) rfl o3 (hI.u0 hK rfl)
         refine .cons (fun V Ld a W hLi hpre hR hI KK hK => ?_) ?_
         ·
          refine G_gw hI hR hpre 8 rfl rfl rfl rfl (by kernel_rfl) ?_
          have f9 := hI.ef hR hpre 9 rfl rfl rfl (by kernel_rfl)
          exact J_binOp rfl .gtr _ (.tmp 25) (.const (.int .i64 0)) _ rfl (by rw [f9]; exact bt_gtr _ _ _ _ W Z1.out) (hI.u0 hK rfl)
         refine .cons (fun V Ld a W hLi hpre hR hI KK hK => ?_) ?_
         ·
          refine G_gw hI hR hpre 8 rfl rfl rfl rfl (by kernel_rfl) ?_
          have f10 := hI.ef hR hpre 10 rfl rfl rfl (by kernel_rfl)
          exact G_move rfl (.tmp 26) rfl f10 (hI.u0 hK rfl)
         refine .cons (fun V Ld a W hLi hpre hR hI KK hK => ?_) ?_
         ·
          refine G_gw hI hR hpre 11 rfl rfl rfl rfl (by kernel_rfl) ?_
          have o4 := (hR.old 4 (by kernel_rfl)).trans (show _ = Value.pointer (some ⟨wr.heap.size, 0, none⟩) from rfl)
          exact J_fieldAddr rfl _ (.tmp 4) 0 rfl (by rw [o4]; go_simp) (hI.u0 hK rfl)
         refine .cons (fun V Ld a W hLi hpre hR hI KK hK => ?_) ?_
         ·
          refine G_gw hI hR hpre 11 rfl rfl rfl rfl (by kernel_rfl) ?_
          have f12 := hI.ef hR hpre 12 rfl rfl rfl (by kernel_rfl)
          have c := (hI.st.bl.cell LV.out).trans VC.out.c0
          exact J_load rfl _ (.tmp 28) rfl (by rw [f12]; go_simp) (hI.u0 hK rfl)
         refine .cons (fun V Ld a W hLi hpre hR hI KK hK => ?_) ?_
         ·
          refine G_gw hI hR hpre 11 rfl rfl rfl rfl (by kernel_rfl) ?_
          have o0 := (hR.old 0 (by kernel_rfl)).trans (show _ = Value.slice (some ⟨b, off, none⟩) C.length ca from rfl)
          exact G_move rfl (.tmp 0) rfl o0 (hI.u0 hK rfl)
         refine .cons (fun V Ld a W hLi hpre hR hI KK hK => ?_) ?_
         ·
          refine G_gw hI hR hpre 11 rfl rfl rfl rfl (by kernel_rfl) ?_
          have o3 := (hR.old 3 (by kernel_rfl)).trans (show _ = Value.int .i64 ((k : Int)) from rfl)
          exact G_move rfl (.tmp 3) rfl o3 (hI.u0 hK rfl)
         refine .cons (fun V Ld a W hLi hpre hR hI KK hK => ?_) ?_
         ·
          refine G_gw hI hR hpre 11 rfl rfl rfl rfl (by kernel_rfl) ?_
          have f15 := hI.ef hR hpre 15 rfl rfl rfl (by kernel_rfl)
          exact J_binOp rfl .sub _ (.tmp 31) (.const (.int .i64 1)) _ rfl (by rw [f15]; exact b_prev _ _ W HM.out (by omega)) (hI.u0 hK rfl)
         refine .cons (fun V Ld a W hLi hpre hR hI KK hK => ?_) ?_
         ·
          refine G_gw hI hR hpre 11 rfl rfl rfl rfl (by kernel_rfl) ?_
          have f14 := hI.ef hR hpre 14 rfl rfl rfl (by kernel_rfl)
          have f16 := hI.ef hR hpre 16 rfl rfl rfl (by kernel_rfl)
          exact J_indexAddr rfl _ (.tmp 30) (.tmp 32) rfl (by rw [f14, f16]; go_simp) (hI.u0 hK rfl)
         refine .cons (fun V Ld a W hLi hpre hR hI KK hK => ?_) ?_
         ·
          refine G_gw hI hR hpre 11 rfl rfl rfl rfl (by kernel_rfl) ?_
          have f17 := hI.ef hR hpre 17 rfl rfl rfl (by kernel_rfl)
          exact J_fieldAddr rfl _ (.tmp 33) 0 rfl (by rw [f17]; go_simp) (hI.u0 hK rfl)
         refine .cons (fun V Ld a W hLi hpre hR hI KK hK => ?_) ?_
         ·
          refine G_gw hI hR hpre 11 rfl rfl rfl rfl (by kernel_rfl) ?_
          have f18 := hI.ef hR hpre 18 rfl rfl rfl (by kernel_rfl)
          have c := (hI.st.bl.cell LB.out).trans Y0.out
          exact J_load rfl _ (.tmp 34) rfl (by rw [f18]; go_simp) (hI.u0 hK rfl)
         refine .cons (fun V Ld a W hLi hpre hR hI KK hK => ?_) ?_
         ·
          refine G_gw hI hR hpre 11 rfl rfl rfl rfl (by kernel_rfl) ?_
          have f13 := hI.ef hR hpre 13 rfl rfl rfl (by kernel_rfl)
          have f19 := hI.ef hR hpre 19 rfl rfl rfl (by kernel_rfl)
          exact J_binOp rfl .leq _ (.tmp 29) (.tmp 35) _ rfl (by rw [f13, f19]; exact bf_leq _ _ _ _ W J2.out) (hI.u0 hK rfl)
         refine .cons (fun V Ld a W hLi hpre hR hI KK hK => ?_) ?_
         ·
          refine G_gw hI hR hpre 8 rfl rfl rfl rfl (by kernel_rfl) ?_
          have f11 := hI.ef hR hpre 11 rfl rfl rfl (by kernel_rfl)
          have f20 := hI.ef hR hpre 20 rfl rfl rfl (by kernel_rfl)
          exact G_pick rfl (.tmp 27) (.tmp 36) (.const (.bool false)) rfl f11 (show _ = _ from f20) (hI.u0 hK rfl)
         refine .cons (fun V Ld a W hLi hpre hR hI KK hK => ?_) ?_
         ·
          have f8 := hI.ef hR hpre 8 rfl rfl rfl (by kernel_rfl)
          have f21 := hI.ef hR hpre 21 rfl rfl rfl (by kernel_rfl)
          exact G_pick rfl (.tmp 24) (.const (.bool true)) (.tmp 37) rfl f8 (show _ = _ from f21) (hI.u0 hK rfl)
         refine .mf 22 rfl rfl rfl rfl rfl (by kernel_rfl) rfl ?_
         refine .cons (fun V Ld a W hLi hpre hR hI KK hK => ?_) ?_
         ·
          refine G_gw hI hR hpre 23 rfl rfl rfl rfl (by kernel_rfl) ?_
          have o4 := (hR.old 4 (by kernel_rfl)).trans (show _ = Value.pointer (some ⟨wr.heap.size, 0, none⟩) from rfl)
          exact J_fieldAddr rfl _ (.tmp 4) 1 rfl (by rw [o4]; go_simp) (hI.u0 hK rfl)
         refine .cons (fun V Ld a W hLi hpre hR hI KK hK => ?_) ?_
         ·
          refine G_gw hI hR hpre 23 rfl rfl rfl rfl (by kernel_rfl) ?_
          have f24 := hI.ef hR hpre 24 rfl rfl rfl (by kernel_rfl)
          have c := (hI.st.bl.cell LV.out).trans VC.out.c1
          exact J_load rfl _ (.tmp 40) rfl (by rw [f24]; go_simp) (hI.u0 hK rfl)
         refine .cons (fun V Ld a W hLi hpre hR hI KK hK => ?_) ?_
         ·
          refine G_gw hI hR hpre 23 rfl rfl rfl rfl (by kernel_rfl) ?_
          have f25 := hI.ef hR hpre 25 rfl rfl rfl (by kernel_rfl)
          exact G_len rfl (.tmp 41) _ rfl (by rw [f25]; go_simp) (hI.u0 hK rfl)
         refine .cons (fun V Ld a W hLi hpre hR hI KK hK => ?_) ?_
         ·
          refine G_gw hI hR hpre 23 rfl rfl rfl rfl (by kernel_rfl) ?_
          have f26 := hI.ef hR hpre 26 rfl rfl rfl (by kernel_rfl)
          exact J_binOp rfl .lss _ (.tmp 42) (.const (.int .i64 1)) _ rfl (by rw [f26]; exact bf_lss _ _ _ _ W J3a.out) (hI.u0 hK rfl)
         refine .cons (fun V Ld a W hLi hpre hR hI KK hK => ?_) ?_
         ·
          have f23 := hI.ef hR hpre 23 rfl rfl rfl (by kernel_rfl)
          have f27 := hI.ef hR hpre 27 rfl rfl rfl (by kernel_rfl)
          exact G_pick rfl (.tmp 39) (.const (.bool true)) (.tmp 43) rfl f23 (show _ = _ from f27) (hI.u0 hK rfl)
         refine .mf 28 rfl rfl rfl rfl rfl (by kernel_rfl) rfl ?_
         refine .cons (fun V Ld a W hLi hpre hR hI KK hK => ?_) ?_
         ·
          refine G_gw hI hR hpre 29 rfl rfl rfl rfl (by kernel_rfl) ?_
          have o4 := (hR.old 4 (by kernel_rfl)).trans (show _ = Value.pointer (some ⟨wr.heap.size, 0, none⟩) from rfl)
          exact J_fieldAddr rfl _ (.tmp 4) 1 rfl (by rw [o4]; go_simp) (hI.u0 hK rfl)
         refine .cons (fun V Ld a W hLi hpre hR hI KK hK => ?_) ?_
         ·
          refine G_gw hI hR hpre 29 rfl rfl rfl rfl (by kernel_rfl) ?_
          have f30 := hI.ef hR hpre 30 rfl rfl rfl (by kernel_rfl)
          have c := (hI.st.bl.cell LV.out).trans VC.out.c1
          exact J_load rfl _ (.tmp 46) rfl (by rw [f30]; go_simp) (hI.u0 hK rfl)
         refine .cons (fun V Ld a W hLi hpre hR hI KK hK => ?_) ?_
         ·
          refine G_gw hI hR hpre 29 rfl rfl rfl rfl (by kernel_rfl) ?_
          have f31 := hI.ef hR hpre 31 rfl rfl rfl (by kernel_rfl)
          exact G_len rfl (.tmp 47) _ rfl (by rw [f31]; go_simp) (hI.u0 hK rfl)
         refine .cons (fun V Ld a W hLi hpre hR hI KK hK => ?_) ?_
         ·
          refine G_gw hI hR hpre 29 rfl rfl rfl rfl (by kernel_rfl) ?_
          have f32 := hI.ef hR hpre 32 rfl rfl rfl (by kernel_rfl)
          exact J_binOp rfl .gtr _ (.tmp 48) (.const (.int .i64 32)) _ rfl (by rw [f32]; exact bf_gtr _ _ _ _ W J3b.out) (hI.u0 hK rfl)
         refine .cons (fun V Ld a W hLi hpre hR hI KK hK => ?_) ?_
         ·
          have f29 := hI.ef hR hpre 29 rfl rfl rfl (by kernel_rfl)
          have f33 := hI.ef hR hpre 33 rfl rfl rfl (by kernel_rfl)
          exact G_pick rfl (.tmp 45) (.const (.bool true)) (.tmp 49) rfl f29 (show _ = _ from f33) (hI.u0 hK rfl)
         refine .mf 34 rfl rfl rfl rfl rfl (by kernel_rfl) rfl ?_
         refine .cons (fun V Ld a W hLi hpre hR hI KK hK => ?_) ?_
         ·
          refine G_gw hI hR hpre 35 rfl rfl rfl rfl (by kernel_rfl) ?_
          have o4 := (hR.old 4 (by kernel_rfl)).trans (show _ = Value.pointer (some ⟨wr.heap.size, 0, none⟩) from rfl)
          exact J_fieldAddr rfl _ (.tmp 4) 2 rfl (by rw [o4]; go_simp) (hI.u0 hK rfl)
         refine .cons (fun V Ld a W hLi hpre hR hI KK hK => ?_) ?_
         ·
          refine G_gw hI hR hpre 35 rfl rfl rfl rfl (by kernel_rfl) ?_
          have f36 := hI.ef hR hpre 36 rfl rfl rfl (by kernel_rfl)
          have c := (hI.st.bl.cell LV.out).trans VC.out.c2
          exact J_load rfl _ (.tmp 52) rfl (by rw [f36]; go_simp) (hI.u0 hK rfl)
         refine .cons (fun V Ld a W hLi hpre hR hI KK hK => ?_) ?_
         ·
          refine G_gw hI hR hpre 35 rfl rfl rfl rfl (by kernel_rfl) ?_
          have f37 := hI.ef hR hpre 37 rfl rfl rfl (by kernel_rfl)
          exact G_len rfl (.tmp 53) _ rfl (by rw [f37]; go_simp) (hI.u0 hK rfl)
         refine .cons (fun V Ld a W hLi hpre hR hI KK hK => ?_) ?_
         ·
          refine G_gw hI hR hpre 35 rfl rfl rfl rfl (by kernel_rfl) ?_
          have f38 := hI.ef hR hpre 38 rfl rfl rfl (by kernel_rfl)
          exact J_binOp rfl .gtr _ (.tmp 54) (.const (.int .i64 256)) _ rfl (by rw [f38]; exact bf_gtr _ _ _ _ W J4.out) (hI.u0 hK rfl)
         refine .cons (fun V Ld a W hLi hpre hR hI KK hK => ?_) trivial
         ·
          have f35 := hI.ef hR hpre 35 rfl rfl rfl (by kernel_rfl)
          have f39 := hI.ef hR hpre 39 rfl rfl rfl (by kernel_rfl)
          exact G_pick rfl (.tmp 51) (.const (.bool true)) (.tmp 55) rfl f35 (show _ = _ from f39) (hI.u0 hK rfl)
        case refine_3 =>
         intro V Ld w9 hLd hI
         have e9 : V 40 = .bool false := hI.val 40 _ rfl (hLd 40 (by decide))
         have hb9 := hI.st.bl
         clear hI hLd
         simp only [finL, putL, Act.put, Nat.reduceAdd]
         rw [e9]
         clear e9
         generalize V 0 = v0, V 1 = v1
         generalize V 2 = v2, V 3 = v3
         generalize V 4 = v4, V 5 = v5
         generalize V 6 = v6, V 7 = v7
         generalize V 8 = v8, V 9 = v9
         generalize V 10 = v10, V 11 = v11
         generalize V 12 = v12, V 13 = v13
         generalize V 14 = v14, V 15 = v15
         generalize V 16 = v16, V 17 = v17
         generalize V 18 = v18, V 19 = v19
         generalize V 20 = v20, V 21 = v21
         generalize V 22 = v22, V 23 = v23
         generalize V 24 = v24, V 25 = v25
         generalize V 26 = v26, V 27 = v27
         generalize V 28 = v28, V 29 = v29
         generalize V 30 = v30, V 31 = v31
         generalize V 32 = v32, V 33 = v33
         generalize V 34 = v34, V 35 = v35
         generalize V 36 = v36, V 37 = v37
         generalize V 38 = v38, V 39 = v39
         clear V
         simp only [List.setIfInBounds_toArray, List.set_cons_succ, List.set_cons_zero]
         have HW := Lib.hid (below_trans hb0 hb9)
         have E2 := Lib.hid ((hb9.cell LV.out).trans VC.out.c2)
         have LV9 := Lib.hid (Nat.lt_of_lt_of_le LV.out hb9.size)
         have HAW := Lib.hid (hx.away.below HW.out)
         have HXN := Lib.hid hx.n
         have e2 := E2.out
         have HSW := Lib.hid (HSZ.out k hlt)
         have lx : x.n ≤ 256 := by have := J4.out; omega
         clear hx hb0 hb9
         go_wp2_with fail
         clear e2
         go_loopw [5] (fun i wv => ∃ j : Nat, j ≤ x.n ∧ i = .int .i64 j ∧ (∀ r, r < j → lngB (sAt (cAt C k).away r) = false) ∧ Below w9.heap.size w9 wv) (fun i _ => x.n - (intOf i).toNat)
         case atStart => exact ⟨0, Nat.zero_le _, rfl, fun r hr => absurd hr (by omega), Below.refl _ _⟩
         case round =>
          obtain ⟨j, hj, rfl, hpj, hbv⟩ := hrel
          have HPJ := Lib.hid hpj
          have HBV := Lib.hid hbv
          have e2 := (hbv.cell LV9.out).trans E2.out
          clear hpj
          by_cases hlj : j < x.n
          ·
           skip
           obtain ⟨ab, ao, eA, lab, -, s1⟩ := (HAW.out.below hbv).str (k := j) (by rw [← HXN.out]; exact hlj)
           have hj0 : (0 : Int) ≤ (j : Int) := by omega
           have hjl : (j : Int) < (x.n : Int) := by omega
           rw [eA] at e2
           cases ql : lngB (sAt (cAt C k).away j) with
           | true =>
            have HV := Lib.hid (HBAD.out _ hlt (cou_5 (any_at (by rw [← HXN.out]; exact hlj) ql)))
            have g : (256 : Int) < ((sAt (cAt C k).away j).size : Int) := by have h := of_decide_eq_true ql; omega
            clear ql hbv
            go_wp2_with fail
            go_ret
            exact RetB.bool HV.out (below_trans HBW.out (below_trans HW.out HBV.out))
           | false =>
            have QL := Lib.hid ql
            have g : ¬ (256 : Int) < ((sAt (cAt C k).away j).size : Int) := by have h := of_decide_eq_false ql; omega
            clear ql hbv
            go_wp2_with fail
            go_roundw
            case rel =>
             refine ⟨j + 1, by omega, by go_num, fun r hr => ?_, HBV.out⟩
             by_cases hrj : r = j
             ·
              subst hrj; exact QL.out
             ·
              exact HPJ.out r (by omega)
            case measure => simp [intOf]; omega
          ·
           have hje : x.n = j := by omega
           have HN := Lib.hid (show cousK C (k + 1) = true from by unfold cousK; rw [HK.out, cou_y Q1.out (prev_y HM.out Q2.out) Q3.out Q4.out (any_none (by rw [← HXN.out, hje]; exact HPJ.out))]; rfl)
           have hjl : ¬ (j : Int) < (x.n : Int) := by omega
           clear hje
           go_wp2_with fail
           go_roundw
           case rel => exact ⟨k + 1, by omega, by go_num, HN.out, below_trans HBR.out (below_trans HW.out HBV.out)⟩
           case measure => simp [intOf]; omega
       ·
        skip
        have Q4 := Lib.hid q4
        clear q4
        have HV := Lib.hid (HBAD.out _ hlt (cou_4 Q4.out))
        have J1a := Lib.hid (show (1 : Int) ≤ x.id from by rw [hx.id]; exact (inI_of Q1.out).1)
        have J1b := Lib.hid (show x.id ≤ (1048576 : Int) from by rw [hx.id]; exact (inI_of Q1.out).2)
        have J2 := Lib.hid (show y.id < x.id from by have := Q2.out; rw [hx.id, hy.id]; omega)
        have J3a := Lib.hid (show (1 : Int) ≤ (x.o.size : Int) from by rw [hx.o]; exact (inI_of Q3.out).1)
        have J3b := Lib.hid (show (x.o.size : Int) ≤ (32 : Int) from by rw [hx.o]; exact (inI_of Q3.out).2)
        have J4 := Lib.hid (show (256 : Int) < (x.n : Int) from by have := Q4.out; have := hx.n; omega)
        clear hx
        clear hy
        go_wp2_with fail
        refine gen_world fun w0 hw0 => ?_
        have hb0 : Below wr.heap.size wr w0 := by rw [hw0]; exact below_alloc _ _
        have VC := Lib.hid (show CouC w0 wr.heap.size x.id x.o (.slice x.A x.n x.c) from by rw [hw0]; exact CouC.new _ _ _ _)
        have LV := Lib.hid (show wr.heap.size < w0.heap.size from by rw [hw0]; simp)
        clear hw0
        replace Y0 := Lib.hid ((hb0.cell hbl).trans Y0.out)
        have LB := Lib.hid (Nat.lt_of_lt_of_le hbl hb0.size)
        refine wp_region_J2 (GI (R := Bl) [Pr.eq (.pointer (some ⟨wr.heap.size, 0, none⟩)), Pr.eq (.int .i64 (x.id)), Pr.eq (.bool false), Pr.eq (.bool false), Pr.eq (.pointer (some ⟨wr.heap.size, 0, none⟩)), Pr.eq (.int .i64 (x.id)), Pr.eq (.bool false), Pr.eq (.bool false), Pr.eq (.bool false), Pr.eq (.int .i64 ((k : Int))), Pr.eq (.bool true), Pr.eq (.bool true), Pr.eq (.pointer (some ⟨wr.heap.size, 0, none⟩)), Pr.eq (.int .i64 (x.id)), Pr.eq (.slice (some ⟨b, off, none⟩) C.length ca), Pr.eq (.int .i64 ((k : Int))), Pr.eq (.int .i64 ((m : Int))), Pr.eq (.pointer (some ⟨b, off + m * 3, none⟩)), Pr.eq (.pointer (some ⟨b, off + m * 3, none⟩)), Pr.eq (.int .i64 (y.id)), Pr.eq (.bool false), Pr.eq (.bool false), Pr.eq (.bool false), Pr.eq (.bool false), Pr.eq (.pointer (some ⟨wr.heap.size, 1, none⟩)), Pr.eq (.string (x.o)), Pr.eq (.int .i64 ((x.o.size : Int))), Pr.eq (.bool false), Pr.eq (.bool false), Pr.eq (.bool false), Pr.eq (.pointer (some ⟨wr.heap.size, 1, none⟩)), Pr.eq (.string (x.o)), Pr.eq (.int .i64 ((x.o.size : Int))), Pr.eq (.bool false), Pr.eq (.bool false), Pr.eq (.bool false), Pr.eq (.pointer (some ⟨wr.heap.size, 2, none⟩)), Pr.eq (.slice x.A x.n x.c), Pr.eq (.int .i64 ((x.n : Int))), Pr.eq (.bool true), Pr.eq (.bool true)] (GrS w0)) (by kernel_rfl) (by kernel_rfl) (by kernel_rfl) ?_ ?_ ?_
        case refine_1 => exact fun V => GI.start (GrS.start _ _ _)
        case refine_2 =>
         refine .cons (fun V Ld a W hLi hpre hR hI KK hK => ?_) ?_
         ·
          have o4 := (hR.old 4 (by kernel_rfl)).trans (show _ = Value.pointer (some ⟨wr.heap.size, 0, none⟩) from rfl)
          exact J_fieldAddr rfl _ (.tmp 4) 0 rfl (by rw [o4]; go_simp) (hI.u0 hK rfl)
         refine .cons (fun V Ld a W hLi hpre hR hI KK hK => ?_) ?_
         ·
          have f0 := hI.ef hR hpre 0 rfl rfl rfl (by kernel_rfl)
          have c := (hI.st.bl.cell LV.out).trans VC.out.c0
          exact J_load rfl _ (.tmp 16) rfl (by rw [f0]; go_simp) (hI.u0 hK rfl)
         refine .cons (fun V Ld a W hLi hpre hR hI KK hK => ?_) ?_
         ·
          have f1 := hI.ef hR hpre 1 rfl rfl rfl (by kernel_rfl)
          exact J_binOp rfl .lss _ (.tmp 17) (.const (.int .i64 1)) _ rfl (by rw [f1]; exact bf_lss _ _ _ _ W J1a.out) (hI.u0 hK rfl)
         refine .mf 2 rfl rfl rfl rfl rfl (by kernel_rfl) rfl ?_
         refine .cons (fun V Ld a W hLi hpre hR hI KK hK => ?_) ?_
         ·
          refine G_gw hI hR hpre 3 rfl rfl rfl rfl (by kernel_rfl) ?_
          have o4 := (hR.old 4 (by kernel_rfl)).trans (show _ = Value.pointer (some ⟨wr.heap.size, 0, none⟩) from rfl)
          exact J_fieldAddr rfl _ (.tmp 4) 0 rfl (by rw [o4]; go_simp) (hI.u0 hK rfl)
         refine .cons (fun V Ld a W hLi hpre hR hI KK hK => ?_) ?_
         ·
          refine G_gw hI hR hpre 3 rfl rfl rfl rfl (by kernel_rfl) ?_
          have f4 := hI.ef hR hpre 4 rfl rfl rfl (by kernel_rfl)
          have c := (hI.st.bl.cell LV.out).trans VC.out.c0
          exact J_load rfl _ (.tmp 20) rfl (by rw [f4]; go_simp) (hI.u0 hK rfl)
         refine .cons (fun V Ld a W hLi hpre hR hI KK hK => ?_) ?_
         ·
          refine G_gw hI hR hpre 3 rfl rfl rfl rfl (by kernel_rfl) ?_
          have f5 := hI.ef hR hpre 5 rfl rfl rfl (by kernel_rfl)
          exact J_binOp rfl .gtr _ (.tmp 21) (.const (.int .i64 1048576)) _ rfl (by rw [f5]; exact bf_gtr _ _ _ _ W J1b.out) (hI.u0 hK rfl)
         refine .cons (fun V Ld a W hLi hpre hR hI KK hK => ?_) ?_
         ·
          have f3 := hI.ef hR hpre 3 rfl rfl rfl (by kernel_rfl)
          have f6 := hI.ef hR hpre 6 rfl rfl rfl (by kernel_rfl)
          exact G_pick rfl (.tmp 19) (.const (.bool true)) (.tmp 22) rfl f3 (show _ = _ from f6) (hI.u0 hK rfl)
         refine .mf 7 rfl rfl rfl rfl rfl (by kernel_rfl) rfl ?_
         refine .cons (fun V Ld a W hLi hpre hR hI KK hK => ?_) ?_
         ·
          refine G_gw hI hR hpre 8 rfl rfl rfl rfl (by kernel_rfl) ?_
          have o3 := (hR.old 3 (by kernel_rfl)).trans (show _ = Value.int .i64 ((k : Int)) from rfl)
          exact G_move rfl (.tmp 3) rfl o3 (hI.u0 hK rfl)
         refine .cons (fun V Ld a W hLi hpre hR hI KK hK => ?_) ?_
         ·
          refine G_gw hI hR hpre 8 rfl rfl rfl rfl (by kernel_rfl) ?_
          have f9 := hI.ef hR hpre 9 rfl rfl rfl (by kernel_rfl)
          exact J_binOp rfl .gtr _ (.tmp 25) (.const (.int .i64 0)) _ rfl (by rw [f9]; exact bt_gtr _ _ _ _ W Z1.out) (hI.u0 hK rfl)
         refine .cons (fun V Ld a W hLi hpre hR hI KK hK => ?_) ?_
         ·
          refine G_gw hI hR hpre 8 rfl rfl rfl rfl (by kernel_rfl) ?_
          have f10 := hI.ef hR hpre 10 rfl rfl rfl (by kernel_rfl)
          exact G_move rfl (.tmp 26) rfl f10 (hI.u0 hK rfl)
         refine .cons (fun V Ld a W hLi hpre hR hI KK hK => ?_) ?_
         ·
          refine G_gw hI hR hpre 11 rfl rfl rfl rfl (by kernel_rfl) ?_
          have o4 := (hR.old 4 (by kernel_rfl)).trans (show _ = Value.pointer (some ⟨wr.heap.size, 0, none⟩) from rfl)
          exact J_fieldAddr rfl _ (.tmp 4) 0 rfl (by rw [o4]; go_simp) (hI.u0 hK rfl)
         refine .cons (fun V Ld a W hLi hpre hR hI KK hK => ?_) ?_
         ·
          refine G_gw hI hR hpre 11 rfl rfl rfl rfl (by kernel_rfl) ?_
          have f12 := hI.ef hR hpre 12 rfl rfl rfl (by kernel_rfl)
          have c := (hI.st.bl.cell LV.out).trans VC.out.c0
          exact J_load rfl _ (.tmp 28) rfl (by rw [f12]; go_simp) (hI.u0 hK rfl)
         refine .cons (fun V Ld a W hLi hpre hR hI KK hK => ?_) ?_
         ·
          refine G_gw hI hR hpre 11 rfl rfl rfl rfl (by kernel_rfl) ?_
          have o0 := (hR.old 0 (by kernel_rfl)).trans (show _ = Value.slice (some ⟨b, off, none⟩) C.length ca from rfl)
          exact G_move rfl (.tmp 0) rfl o0 (hI.u0 hK rfl)
         refine .cons (fun V Ld a W hLi hpre hR hI KK hK => ?_) ?_
         ·
          refine G_gw hI hR hpre 11 rfl rfl rfl rfl (by kernel_rfl) ?_
          have o3 := (hR.old 3 (by kernel_rfl)).trans (show _ = Value.int .i64 ((k : Int)) from rfl)
          exact G_move rfl (.tmp 3) rfl o3 (hI.u0 hK rfl)
         refine .cons (fun V Ld a W hLi hpre hR hI KK hK => ?_) ?_
         ·
          refine G_gw hI hR hpre 11 rfl rfl rfl rfl (by kernel_rfl) ?_
          have f15 := hI.ef hR hpre 15 rfl rfl rfl (by kernel_rfl)
          exact J_binOp rfl .sub _ (.tmp 31) (.const (.int .i64 1)) _ rfl (by rw [f15]; exact b_prev _ _ W HM.out (by omega)) (hI.u0 hK rfl)
         refine .cons (fun V Ld a W hLi hpre hR hI KK hK => ?_) ?_
         ·
          refine G_gw hI hR hpre 11 rfl rfl rfl rfl (by kernel_rfl) ?_
          have f14 := hI.ef hR hpre 14 rfl rfl rfl (by kernel_rfl)
          have f16 := hI.ef hR hpre 16 rfl rfl rfl (by kernel_rfl)
          exact J_indexAddr rfl _ (.tmp 30) (.tmp 32) rfl (by rw [f14, f16]; go_simp) (hI.u0 hK rfl)
         refine .cons (fun V Ld a W hLi hpre hR hI KK hK => ?_) ?_
         ·
          refine G_gw hI hR hpre 11 rfl rfl rfl rfl (by kernel_rfl) ?_
          have f17 := hI.ef hR hpre 17 rfl rfl rfl (by kernel_rfl)
          exact J_fieldAddr rfl _ (.tmp 33) 0 rfl (by rw [f17]; go_simp) (hI.u0 hK rfl)
         refine .cons (fun V Ld a W hLi hpre hR hI KK hK => ?_) ?_
         ·
          refine G_gw hI hR hpre 11 rfl rfl rfl rfl (by kernel_rfl) ?_
          have f18 := hI.ef hR hpre 18 rfl rfl rfl (by kernel_rfl)
          have c := (hI.st.bl.cell LB.out).trans Y0.out
          exact J_load rfl _ (.tmp 34) rfl (by rw [f18]; go_simp) (hI.u0 hK rfl)
         refine .cons (fun V Ld a W hLi hpre hR hI KK hK => ?_) ?_
         ·
          refine G_gw hI hR hpre 11 rfl rfl rfl rfl (by kernel_rfl) ?_
          have f13 := hI.ef hR hpre 13 rfl rfl rfl (by kernel_rfl)
          have f19 := hI.ef hR hpre 19 rfl rfl rfl (by kernel_rfl)
          exact J_binOp rfl .leq _ (.tmp 29) (.tmp 35) _ rfl (by rw [f13, f19]; exact bf_leq _ _ _ _ W J2.out) (hI.u0 hK rfl)
         refine .cons (fun V Ld a W hLi hpre hR hI KK hK => ?_) ?_
         ·
          refine G_gw hI hR hpre 8 rfl rfl rfl rfl (by kernel_rfl) ?_
          have f11 := hI.ef hR hpre 11 rfl rfl rfl (by kernel_rfl)
          have f20 := hI.ef hR hpre 20 rfl rfl rfl (by kernel_rfl)
          exact G_pick rfl (.tmp 27) (.tmp 36) (.const (.bool false)) rfl f11 (show _ = _ from f20) (hI.u0 hK rfl)
         refine .cons (fun V Ld a W hLi hpre hR hI KK hK => ?_) ?_
         ·
          have f8 := hI.ef hR hpre 8 rfl rfl rfl (by kernel_rfl)
          have f21 := hI.ef hR hpre 21 rfl rfl rfl (by kernel_rfl)
          exact G_pick rfl (.tmp 24) (.const (.bool true)) (.tmp 37) rfl f8 (show _ = _ from f21) (hI.u0 hK rfl)
         refine .mf 22 rfl rfl rfl rfl rfl (by kernel_rfl) rfl ?_
         refine .cons (fun V Ld a W hLi hpre hR hI KK hK => ?_) ?_
         ·
          refine G_gw hI hR hpre 23 rfl rfl rfl rfl (by kernel_rfl) ?_
          have o4 := (hR.old 4 (by kernel_rfl)).trans (show _ = Value.pointer (some ⟨wr.heap.size, 0, none⟩) from rfl)
          exact J_fieldAddr rfl _ (.tmp 4) 1 rfl (by rw [o4]; go_simp) (hI.u0 hK rfl)
         refine .cons (fun V Ld a W hLi hpre hR hI KK hK => ?_) ?_
         ·
          refine G_gw hI hR hpre 23 rfl rfl rfl rfl (by kernel_rfl) ?_
          have f24 := hI.ef hR hpre 24 rfl rfl rfl (by kernel_rfl)
          have c := (hI.st.bl.cell LV.out).trans VC.out.c1
          exact J_load rfl _ (.tmp 40) rfl (by rw [f24]; go_simp) (hI.u0 hK rfl)
         refine .cons (fun V Ld a W hLi hpre hR hI KK hK => ?_) ?_
         ·
          refine G_gw hI hR hpre 23 rfl rfl rfl rfl (by kernel_rfl) ?_
          have f25 := hI.ef hR hpre 25 rfl rfl rfl (by kernel_rfl)
          exact G_len rfl (.tmp 41) _ rfl (by rw [f25]; go_simp) (hI.u0 hK rfl)
         refine .cons (fun V Ld a W hLi hpre hR hI KK hK => ?_) ?_
         ·
          refine G_gw hI hR hpre 23 rfl rfl rfl rfl (by kernel_rfl) ?_
          have f26 := hI.ef hR hpre 26 rfl rfl rfl (by kernel_rfl)
          exact J_binOp rfl .lss _ (.tmp 42) (.const (.int .i64 1)) _ rfl (by rw [f26]; exact bf_lss _ _ _ _ W J3a.out) (hI.u0 hK rfl)
         refine .cons (fun V Ld a W hLi hpre hR hI KK hK => ?_) ?_
         ·
          have f23 := hI.ef hR hpre 23 rfl rfl rfl (by kernel_rfl)
          have f27 := hI.ef hR hpre 27 rfl rfl rfl (by kernel_rfl)
          exact G_pick rfl (.tmp 39) (.const (.bool true)) (.tmp 43) rfl f23 (show _ = _ from f27) (hI.u0 hK rfl)
         refine .mf 28 rfl rfl rfl rfl rfl (by kernel_rfl) rfl ?_
         refine .cons (fun V Ld a W hLi hpre hR hI KK hK => ?_) ?_
         ·
          refine G_gw hI hR hpre 29 rfl rfl rfl rfl (by kernel_rfl) ?_
          have o4 := (hR.old 4 (by kernel_rfl)).trans (show _ = Value.pointer (some ⟨wr.heap.size, 0, none⟩) from rfl)
          exact J_fieldAddr rfl _ (.tmp 4) 1 rfl (by rw [o4]; go_simp) (hI.u0 hK rfl)
         refine .cons (fun V Ld a W hLi hpre hR hI KK hK => ?_) ?_
         ·
          refine G_gw hI hR hpre 29 rfl rfl rfl rfl (by kernel_rfl) ?_
          have f30 := hI.ef hR hpre 30 rfl rfl rfl (by kernel_rfl)
          have c := (hI.st.bl.cell LV.out).trans VC.out.c1
          exact J_load rfl _ (.tmp 46) rfl (by rw [f30]; go_simp) (hI.u0 hK rfl)
         refine .cons (fun V Ld a W hLi hpre hR hI KK hK => ?_) ?_
         ·
          refine G_gw hI hR hpre 29 rfl rfl rfl rfl (by kernel_rfl) ?_
          have f31 := hI.ef hR hpre 31 rfl rfl rfl (by kernel_rfl)
          exact G_len rfl (.tmp 47) _ rfl (by rw [f31]; go_simp) (hI.u0 hK rfl)
         refine .cons (fun V Ld a W hLi hpre hR hI KK hK => ?_) ?_
         ·
          refine G_gw hI hR hpre 29 rfl rfl rfl rfl (by kernel_rfl) ?_
          have f32 := hI.ef hR hpre 32 rfl rfl rfl (by kernel_rfl)
          exact J_binOp rfl .gtr _ (.tmp 48) (.const (.int .i64 32)) _ rfl (by rw [f32]; exact bf_gtr _ _ _ _ W J3b.out) (hI.u0 hK rfl)
         refine .cons (fun V Ld a W hLi hpre hR hI KK hK => ?_) ?_
         ·
          have f29 := hI.ef hR hpre 29 rfl rfl rfl (by kernel_rfl)
          have f33 := hI.ef hR hpre 33 rfl rfl rfl (by kernel_rfl)
          exact G_pick rfl (.tmp 45) (.const (.bool true)) (.tmp 49) rfl f29 (show _ = _ from f33) (hI.u0 hK rfl)
         refine .mf 34 rfl rfl rfl rfl rfl (by kernel_rfl) rfl ?_
         refine .cons (fun V Ld a W hLi hpre hR hI KK hK => ?_) ?_
         ·
          refine G_gw hI hR hpre 35 rfl rfl rfl rfl (by kernel_rfl) ?_
          have o4 := (hR.old 4 (by kernel_rfl)).trans (show _ = Value.pointer (some ⟨wr.heap.size, 0, none⟩) from rfl)
          exact J_fieldAddr rfl _ (.tmp 4) 2 rfl (by rw [o4]; go_simp) (hI.u0 hK rfl)
         refine .cons (fun V Ld a W hLi hpre hR hI KK hK => ?_) ?_
         ·
          refine G_gw hI hR hpre 35 rfl rfl rfl rfl (by kernel_rfl) ?_
          have f36 := hI.ef hR hpre 36 rfl rfl rfl (by kernel_rfl)
          have c := (hI.st.bl.cell LV.out).trans VC.out.c2
          exact J_load rfl _ (.tmp 52) rfl (by rw [f36]; go_simp) (hI.u0 hK rfl)
         refine .cons (fun V Ld a W hLi hpre hR hI KK hK => ?_) ?_
         ·
          refine G_gw hI hR hpre 35 rfl rfl rfl rfl (by kernel_rfl) ?_
          have f37 := hI.ef hR hpre 37 rfl rfl rfl (by kernel_rfl)
          exact G_len rfl (.tmp 53) _ rfl (by rw [f37]; go_simp) (hI.u0 hK rfl)
         refine .cons (fun V Ld a W hLi hpre hR hI KK hK => ?_) ?_
         ·
          refine G_gw hI hR hpre 35 rfl rfl rfl rfl (by kernel_rfl) ?_
          have f38 := hI.ef hR hpre 38 rfl rfl rfl (by kernel_rfl)
          exact J_binOp rfl .gtr _ (.tmp 54) (.const (.int .i64 256)) _ rfl (by rw [f38]; exact bt_gtr _ _ _ _ W J4.out) (hI.u0 hK rfl)
         refine .cons (fun V Ld a W hLi hpre hR hI KK hK => ?_) trivial
         ·
          have f35 := hI.ef hR hpre 35 rfl rfl rfl (by kernel_rfl)
          have f39 := hI.ef hR hpre 39 rfl rfl rfl (by kernel_rfl)
          exact G_pick rfl (.tmp 51) (.const (.bool true)) (.tmp 55) rfl f35 (show _ = _ from f39) (hI.u0 hK rfl)
        case refine_3 =>
         intro V Ld w9 hLd hI
         have e9 : V 40 = .bool true := hI.val 40 _ rfl (hLd 40 (by decide))
         have hb9 := hI.st.bl
         clear hI hLd
         simp only [finL, putL, Act.put, Nat.reduceAdd]
         rw [e9]
         clear e9
         generalize V 0 = v0, V 1 = v1
         generalize V 2 = v2, V 3 = v3
         generalize V 4 = v4, V 5 = v5
         generalize V 6 = v6, V 7 = v7
         generalize V 8 = v8, V 9 = v9
         generalize V 10 = v10, V 11 = v11
         generalize V 12 = v12, V 13 = v13
         generalize V 14 = v14, V 15 = v15
         generalize V 16 = v16, V 17 = v17
         generalize V 18 = v18, V 19 = v19
         generalize V 20 = v20, V 21 = v21
         generalize V 22 = v22, V 23 = v23
         generalize V 24 = v24, V 25 = v25
         generalize V 26 = v26, V 27 = v27
         generalize V 28 = v28, V 29 = v29
         generalize V 30 = v30, V 31 = v31
         generalize V 32 = v32, V 33 = v33
         generalize V 34 = v34, V 35 = v35
         generalize V 36 = v36, V 37 = v37
         generalize V 38 = v38, V 39 = v39
         clear V
         simp only [List.setIfInBounds_toArray, List.set_cons_succ, List.set_cons_zero]
         go_wp2_with fail
         go_ret
         exact RetB.bool HV.out (below_trans HBW.out (below_trans hb0 hb9))
     ·
      skip
      have Q2 := Lib.hid q2
      clear q2
      have HV := Lib.hid (HBAD.out _ hlt (cou_2 (prev_n HM.out Q2.out)))
      have J1a := Lib.hid (show (1 : Int) ≤ x.id from by rw [hx.id]; exact (inI_of Q1.out).1)
      have J1b := Lib.hid (show x.id ≤ (1048576 : Int) from by rw [hx.id]; exact (inI_of Q1.out).2)
      have J2 := Lib.hid (show x.id ≤ y.id from by have := Q2.out; rw [hx.id, hy.id]; omega)
      clear hx
      clear hy
      go_wp2_with fail
      refine gen_world fun w0 hw0 => ?_
      have hb0 : Below wr.heap.size wr w0 := by rw [hw0]; exact below_alloc _ _
      have VC := Lib.hid (show CouC w0 wr.heap.size x.id x.o (.slice x.A x.n x.c) from by rw [hw0]; exact CouC.new _ _ _ _)
      have LV := Lib.hid (show wr.heap.size < w0.heap.size from by rw [hw0]; simp)
      clear hw0
      replace Y0 := Lib.hid ((hb0.cell hbl).trans Y0.out)
      have LB := Lib.hid (Nat.lt_of_lt_of_le hbl hb0.size)
      refine wp_region_J2 (GI (R := Bl) [Pr.eq (.pointer (some ⟨wr.heap.size, 0, none⟩)), Pr.eq (.int .i64 (x.id)), Pr.eq (.bool false), Pr.eq (.bool false), Pr.eq (.pointer (some ⟨wr.heap.size, 0, none⟩)), Pr.eq (.int .i64 (x.id)), Pr.eq (.bool false), Pr.eq (.bool false), Pr.eq (.bool false), Pr.eq (.int .i64 ((k : Int))), Pr.eq (.bool true), Pr.eq (.bool true), Pr.eq (.pointer (some ⟨wr.heap.size, 0, none⟩)), Pr.eq (.int .i64 (x.id)), Pr.eq (.slice (some ⟨b, off, none⟩) C.length ca), Pr.eq (.int .i64 ((k : Int))), Pr.eq (.int .i64 ((m : Int))), Pr.eq (.pointer (some ⟨b, off + m * 3, none⟩)), Pr.eq (.pointer (some ⟨b, off + m * 3, none⟩)), Pr.eq (.int .i64 (y.id)), Pr.eq (.bool true), Pr.eq (.bool true), Pr.eq (.bool true), Pr.eq (.bool true), Pr.eq undef, Pr.eq undef, Pr.eq undef, Pr.eq undef, Pr.eq (.bool true), Pr.eq (.bool true), Pr.eq undef, Pr.eq undef, Pr.eq undef, Pr.eq undef, Pr.eq (.bool true), Pr.eq (.bool true), Pr.eq undef, Pr.eq undef, Pr.eq undef, Pr.eq undef, Pr.eq (.bool true)] (GrS w0)) (by kernel_rfl) (by kernel_rfl) (by kernel_rfl) ?_ ?_ ?_
      case refine_1 => exact fun V => GI.start (GrS.start _ _ _)
      case refine_2 =>
       refine .cons (fun V Ld a W hLi hpre hR hI KK hK => ?_) ?_
       ·
        have o4 := (hR.old 4 (by kernel_rfl)).trans (show _ = Value.pointer (some ⟨wr.heap.size, 0, none⟩) from rfl)
        exact J_fieldAddr rfl _ (.tmp 4) 0 rfl (by rw [o4]; go_simp) (hI.u0 hK rfl)
       refine .cons (fun V Ld a W hLi hpre hR hI KK hK => ?_) ?_
       ·
        have f0 := hI.ef hR hpre 0 rfl rfl rfl (by kernel_rfl)
        have c := (hI.st.bl.cell LV.out).trans VC.out.c0
        exact J_load rfl _ (.tmp 16) rfl (by rw [f0]; go_simp) (hI.u0 hK rfl)
       refine .cons (fun V Ld a W hLi hpre hR hI KK hK => ?_) ?_
       ·
        have f1 := hI.ef hR hpre 1 rfl rfl rfl (by kernel_rfl)
        exact J_binOp rfl .lss _ (.tmp 17) (.const (.int .i64 1)) _ rfl (by rw [f1]; exact bf_lss _ _ _ _ W J1a.out) (hI.u0 hK rfl)
       refine .mf 2 rfl rfl rfl rfl rfl (by kernel_rfl) rfl ?_
       refine .cons (fun V Ld a W hLi hpre hR hI KK hK => ?_) ?_
       ·
        refine G_gw hI hR hpre 3 rfl rfl rfl rfl (by kernel_rfl) ?_
        have o4 := (hR.old 4 (by kernel_rfl)).trans (show _ = Value.pointer (some ⟨wr.heap.size, 0, none⟩) from rfl)
        exact J_fieldAddr rfl _ (.tmp 4) 0 rfl (by rw [o4]; go_simp) (hI.u0 hK rfl)
       refine .cons (fun V Ld a W hLi hpre hR hI KK hK => ?_) ?_
       ·
        refine G_gw hI hR hpre 3 rfl rfl rfl rfl (by kernel_rfl) ?_
        have f4 := hI.ef hR hpre 4 rfl rfl rfl (by kernel_rfl)
        have c := (hI.st.bl.cell LV.out).trans VC.out.c0
        exact J_load rfl _ (.tmp 20) rfl (by rw [f4]; go_simp) (hI.u0 hK rfl)
       refine .cons (fun V Ld a W hLi hpre hR hI KK hK => ?_) ?_
       ·
        refine G_gw hI hR hpre 3 rfl rfl rfl rfl (by kernel_rfl) ?_
        have f5 := hI.ef hR hpre 5 rfl rfl rfl (by kernel_rfl)
        exact J_binOp rfl .gtr _ (.tmp 21) (.const (.int .i64 1048576)) _ rfl (by rw [f5]; exact bf_gtr _ _ _ _ W J1b.out) (hI.u0 hK rfl)
       refine .cons (fun V Ld a W hLi hpre hR hI KK hK => ?_) ?_
       ·
        have f3 := hI.ef hR hpre 3 rfl rfl rfl (by kernel_rfl)
        have f6 := hI.ef hR hpre 6 rfl rfl rfl (by kernel_rfl)
        exact G_pick rfl (.tmp 19) (.const (.bool true)) (.tmp 22) rfl f3 (show _ = _ from f6) (hI.u0 hK rfl)
       refine .mf 7 rfl rfl rfl rfl rfl (by kernel_rfl) rfl ?_
       refine .cons (fun V Ld a W hLi hpre hR hI KK hK => ?_) ?_
       ·
        refine G_gw hI hR hpre 8 rfl rfl rfl rfl (by kernel_rfl) ?_
        have o3 := (hR.old 3 (by kernel_rfl)).trans (show _ = Value.int .i64 ((k : Int)) from rfl)
        exact G_move rfl (.tmp 3) rfl o3 (hI.u0 hK rfl)
       refine .cons (fun V Ld a W hLi hpre hR hI KK hK => ?_) ?_
       ·
        refine G_gw hI hR hpre 8 rfl rfl rfl rfl (by kernel_rfl) ?_
        have f9 := hI.ef hR hpre 9 rfl rfl rfl (by kernel_rfl)
        exact J_binOp rfl .gtr _ (.tmp 25) (.const (.int .i64 0)) _ rfl (by rw [f9]; exact bt_gtr _ _ _ _ W Z1.out) (hI.u0 hK rfl)
       refine .cons (fun V Ld a W hLi hpre hR hI KK hK => ?_) ?_
       ·
        refine G_gw hI hR hpre 8 rfl rfl rfl rfl (by kernel_rfl) ?_
        have f10 := hI.ef hR hpre 10 rfl rfl rfl (by kernel_rfl)
        exact G_move rfl (.tmp 26) rfl f10 (hI.u0 hK rfl)
       refine .cons (fun V Ld a W hLi hpre hR hI KK hK => ?_) ?_
       ·
        refine G_gw hI hR hpre 11 rfl rfl rfl rfl (by kernel_rfl) ?_
        have o4 := (hR.old 4 (by kernel_rfl)).trans (show _ = Value.pointer (some ⟨wr.heap.size, 0, none⟩) from rfl)
        exact J_fieldAddr rfl _ (.tmp 4) 0 rfl (by rw [o4]; go_simp) (hI.u0 hK rfl)
       refine .cons (fun V Ld a W hLi hpre hR hI KK hK => ?_) ?_
       ·
        refine G_gw hI hR hpre 11 rfl rfl rfl rfl (by kernel_rfl) ?_
        have f12 := hI.ef hR hpre 12 rfl rfl rfl (by kernel_rfl)
        have c := (hI.st.bl.cell LV.out).trans VC.out.c0
        exact J_load rfl _ (.tmp 28) rfl (by rw [f12]; go_simp) (hI.u0 hK rfl)
       refine .cons (fun V Ld a W hLi hpre hR hI KK hK => ?_) ?_
       ·
        refine G_gw hI hR hpre 11 rfl rfl rfl rfl (by kernel_rfl) ?_
        have o0 := (hR.old 0 (by kernel_rfl)).trans (show _ = Value.slice (some ⟨b, off, none⟩) C.length ca from rfl)
        exact G_move rfl (.tmp 0) rfl o0 (hI.u0 hK rfl)
       refine .cons (fun V Ld a W hLi hpre hR hI KK hK => ?_) ?_
       ·
        refine G_gw hI hR hpre 11 rfl rfl rfl rfl (by kernel_rfl) ?_
        have o3 := (hR.old 3 (by kernel_rfl)).trans (show _ = Value.int .i64 ((k : Int)) from rfl)
        exact G_move rfl (.tmp 3) rfl o3 (hI.u0 hK rfl)
       refine .cons (fun V Ld a W hLi hpre hR hI KK hK => ?_) ?_
       ·
        refine G_gw hI hR hpre 11 rfl rfl rfl rfl (by kernel_rfl) ?_
        have f15 := hI.ef hR hpre 15 rfl rfl rfl (by kernel_rfl)
        exact J_binOp rfl .sub _ (.tmp 31) (.const (.int .i64 1)) _ rfl (by rw [f15]; exact b_prev _ _ W HM.out (by omega)) (hI.u0 hK rfl)
       refine .cons (fun V Ld a W hLi hpre hR hI KK hK => ?_) ?_
       ·
        refine G_gw hI hR hpre 11 rfl rfl rfl rfl (by kernel_rfl) ?_
        have f14 := hI.ef hR hpre 14 rfl rfl rfl (by kernel_rfl)
        have f16 := hI.ef hR hpre 16 rfl rfl rfl (by kernel_rfl)
        exact J_indexAddr rfl _ (.tmp 30) (.tmp 32) rfl (by rw [f14, f16]; go_simp) (hI.u0 hK rfl)
       refine .cons (fun V Ld a W hLi hpre hR hI KK hK => ?_) ?_
       ·
        refine G_gw hI hR hpre 11 rfl rfl rfl rfl (by kernel_rfl) ?_
        have f17 := hI.ef hR hpre 17 rfl rfl rfl (by kernel_rfl)
        exact J_fieldAddr rfl _ (.tmp 33) 0 rfl (by rw [f17]; go_simp) (hI.u0 hK rfl)
       refine .cons (fun V Ld a W hLi hpre hR hI KK hK => ?_) ?_
       ·
        refine G_gw hI hR hpre 11 rfl rfl rfl rfl (by kernel_rfl) ?_
        have f18 := hI.ef hR hpre 18 rfl rfl rfl (by kernel_rfl)
        have c := (hI.st.bl.cell LB.out).trans Y0.out
        exact J_load rfl _ (.tmp 34) rfl (by rw [f18]; go_simp) (hI.u0 hK rfl)
       refine .cons (fun V Ld a W hLi hpre hR hI KK hK => ?_) ?_
       ·
        refine G_gw hI hR hpre 11 rfl rfl rfl rfl (by kernel_rfl) ?_
        have f13 := hI.ef hR hpre 13 rfl rfl rfl (by kernel_rfl)
        have f19 := hI.ef hR hpre 19 rfl rfl rfl (by kernel_rfl)
        exact J_binOp rfl .leq _ (.tmp 29) (.tmp 35) _ rfl (by rw [f13, f19]; exact bt_leq _ _ _ _ W J2.out) (hI.u0 hK rfl)
       refine .cons (fun V Ld a W hLi hpre hR hI KK hK => ?_) ?_
       ·
        refine G_gw hI hR hpre 8 rfl rfl rfl rfl (by kernel_rfl) ?_
        have f11 := hI.ef hR hpre 11 rfl rfl rfl (by kernel_rfl)
        have f20 := hI.ef hR hpre 20 rfl rfl rfl (by kernel_rfl)
        exact G_pick rfl (.tmp 27) (.tmp 36) (.const (.bool false)) rfl f11 (show _ = _ from f20) (hI.u0 hK rfl)
       refine .cons (fun V Ld a W hLi hpre hR hI KK hK => ?_) ?_
       ·
        have f8 := hI.ef hR hpre 8 rfl rfl rfl (by kernel_rfl)
        have f21 := hI.ef hR hpre 21 rfl rfl rfl (by kernel_rfl)
        exact G_pick rfl (.tmp 24) (.const (.bool true)) (.tmp 37) rfl f8 (show _ = _ from f21) (hI.u0 hK rfl)
       refine .mf 22 rfl rfl rfl rfl rfl (by kernel_rfl) rfl ?_
       refine .un 23 rfl rfl rfl rfl (by kernel_rfl) rfl ?_
       refine .un 23 rfl rfl rfl rfl (by kernel_rfl) rfl ?_
       refine .un 23 rfl rfl rfl rfl (by kernel_rfl) rfl ?_
       refine .un 23 rfl rfl rfl rfl (by kernel_rfl) rfl ?_
       refine .cons (fun V Ld a W hLi hpre hR hI KK hK => ?_) ?_
       ·
        have f23 := hI.ef hR hpre 23 rfl rfl rfl (by kernel_rfl)
        exact G_pick rfl (.tmp 39) (.const (.bool true)) (.tmp 43) rfl f23 (show _ = _ from rfl) (hI.u0 hK rfl)
       refine .mf 28 rfl rfl rfl rfl rfl (by kernel_rfl) rfl ?_
       refine .un 29 rfl rfl rfl rfl (by kernel_rfl) rfl ?_
       refine .un 29 rfl rfl rfl rfl (by kernel_rfl) rfl ?_
       refine .un 29 rfl rfl rfl rfl (by kernel_rfl) rfl ?_
       refine .un 29 rfl rfl rfl rfl (by kernel_rfl) rfl ?_
       refine .cons (fun V Ld a W hLi hpre hR hI KK hK => ?_) ?_
       ·
        have f29 := hI.ef hR hpre 29 rfl rfl rfl (by kernel_rfl)
        exact G_pick rfl (.tmp 45) (.const (.bool true)) (.tmp 49) rfl f29 (show _ = _ from rfl) (hI.u0 hK rfl)
       refine .mf 34 rfl rfl rfl rfl rfl (by kernel_rfl) rfl ?_
       refine .un 35 rfl rfl rfl rfl (by kernel_rfl) rfl ?_
       refine .un 35 rfl rfl rfl rfl (by kernel_rfl) rfl ?_
       refine .un 35 rfl rfl rfl rfl (by kernel_rfl) rfl ?_
       refine .un 35 rfl rfl rfl rfl (by kernel_rfl) rfl ?_
       refine .cons (fun V Ld a W hLi hpre hR hI KK hK => ?_) trivial
       ·
        have f35 := hI.ef hR hpre 35 rfl rfl rfl (by kernel_rfl)
        exact G_pick rfl (.tmp 51) (.const (.bool true)) (.tmp 55) rfl f35 (show _ = _ from rfl) (hI.u0 hK rfl)
      case refine_3 =>
       intro V Ld w9 hLd hI
       have e9 : V 40 = .bool true := hI.val 40 _ rfl (hLd 40 (by decide))
       have hb9 := hI.st.bl
       clear hI hLd
       simp only [finL, putL, Act.put, Nat.reduceAdd]
       rw [e9]
       clear e9
       generalize V 0 = v0, V 1 = v1
       generalize V 2 = v2, V 3 = v3
       generalize V 4 = v4, V 5 = v5
       generalize V 6 = v6, V 7 = v7
       generalize V 8 = v8, V 9 = v9
       generalize V 10 = v10, V 11 = v11
       generalize V 12 = v12, V 13 = v13
       generalize V 14 = v14, V 15 = v15
       generalize V 16 = v16, V 17 = v17
       generalize V 18 = v18, V 19 = v19
       generalize V 20 = v20, V 21 = v21
       generalize V 22 = v22, V 23 = v23
       generalize V 24 = v24, V 25 = v25
       generalize V 26 = v26, V 27 = v27
       generalize V 28 = v28, V 29 = v29
       generalize V 30 = v30, V 31 = v31
       generalize V 32 = v32, V 33 = v33
       generalize V 34 = v34, V 35 = v35
       generalize V 36 = v36, V 37 = v37
       generalize V 38 = v38, V 39 = v39
       clear V
       simp only [List.setIfInBounds_toArray, List.set_cons_succ, List.set_cons_zero]
       go_wp2_with fail
       go_ret
       exact RetB.bool HV.out (below_trans HBW.out (below_trans hb0 hb9))
  ·
   obtain rfl : C.length = k := by omega
   have HV := Lib.hid (cousB_ok HK.out)
   have hkl : ¬ (C.length : Int) < (C.length : Int) := by omega
   go_wp2_with fail
   go_ret
   exact RetB.bool HV.out hbr
set_option maxRecDepth 100000 in
set_option maxHeartbeats 8000000 in
theorem refCheck_any {P : Nat → Prop} (v : Value) (D : DeskD) (w : World) (hD : DeskR P w v D) (sD : DeskS D) :
  Calls Try.prog 19 #[v] w (RetB (.int .i64 (chkE D)) w) := by
 obtain ⟨A, ca, B, cb, rfl, h1, h2⟩ := hD
 obtain ⟨C, K⟩ := D
 have HC := Lib.hid h1
 have HKS := Lib.hid h2
 have HSZ := Lib.hid sD.co
 have HSK := Lib.hid sD.ca
 have lc : C.length ≤ 1000 := sD.lc
 have lk : K.length ≤ 1000 := sD.lk
 clear h1 h2 sD
 have HBADK := Lib.hid (fun k (hk : k < K.length) h => chk_cas (D := ⟨C, K⟩) (k := k) hk h)
 have HRC := Lib.hid (fun W (hb : Below w.heap.size w W) => refCous_any A C ca W (HC.out.below hb) lc HSZ.out)
 cases q0 : cousB C with
 | false =>
  have HV := Lib.hid (show 1 = chkE ⟨C, K⟩ from by unfold chkE chkB; rw [show (cousK C C.length && decide (C.length ≤ 32)) = false from q0]; rfl)
  rw [q0] at HRC
  clear q0
  go_enter Try.func19, Try.ntmps19
  go_wp2_with fail
  refine ret_below (HRC.out _ (below_alloc _ _)) fun w1 hb1 => ?_
  go_wp2_with fail
  go_ret
  exact RetB.int HV.out (below_trans (below_alloc _ _) hb1)
 | true =>
  have HCB := Lib.hid q0
  rw [q0] at HRC
  clear q0
  by_cases g2 : K.length ≤ 256
  ·
   have g2' : ¬ (256 : Int) < (K.length : Int) := by omega
   have HOK := Lib.hid (fun (h4 : casK ⟨C, K⟩ K.length = true) => (show 0 = chkE ⟨C, K⟩ from by unfold chkE chkB; rw [show (cousK C C.length && decide (C.length ≤ 32)) = true from HCB.out, show decide (K.length ≤ 256) = true from decide_eq_true g2, h4]; rfl))
   go_enter Try.func19, Try.ntmps19
   go_wp2_with fail
   refine gen_calls fun wa hwa => ?_
   have hba : Below w.heap.size w wa := by rw [hwa]; exact below_alloc _ _
   have HDA := Lib.hid (show DeskCell wa w.heap.size (.slice A C.length ca) (.slice B K.length cb) from by rw [hwa]; exact DeskCell.new _ _ rfl)
   clear hwa
   refine ret_below (HRC.out _ hba) fun w3 hb3 => ?_
   have HDC := Lib.hid (HDA.out.below hb3)
   have HB3 := Lib.hid (below_trans hba hb3)
   have d0 := HDC.out.c0
   have d1 := HDC.out.c1
   have ld := HDC.out.lt
   clear hba hb3 HDA
   go_wp2_with fail
   clear d0 d1 ld
   go_loopw [3] (fun i wr => ∃ k : Nat, k ≤ K.length ∧ i = .int .i64 k ∧ casK ⟨C, K⟩ k = true ∧ Below w3.heap.size w3 wr) (fun i _ => K.length - (intOf i).toNat)
   case atStart => exact ⟨0, Nat.zero_le _, rfl, rfl, Below.refl _ _⟩
   case round =>
    obtain ⟨k, hk, rfl, hpre, hbr⟩ := hrel
    have HK := Lib.hid hpre
    have HBR := Lib.hid hbr
    have HBW := Lib.hid (below_trans HB3.out hbr)
    clear hpre
    by_cases hlt : k < K.length
    ·
     skip
     obtain ⟨kb, ko, rfl, hbl, -, c0, c1, c2, c3, c4⟩ := (HKS.out.below HBW.out).case hlt
     have hk0 : (0 : Int) ≤ (k : Int) := by omega
     have hkl : (k : Int) < (K.length : Int) := by omega
     have HDR := HDC.out.below hbr
     have d0 := HDR.c0
     have d1 := HDR.c1
     have ld := HDR.lt
     clear HDR hbr
     go_wp2_with fail
     refine gen_calls fun w4 hw4 => ?_
     have hb4 : Below wr.heap.size wr w4 := by rw [hw4]; exact below_alloc _ _
     have VC0 := Lib.hid (show CaseC w4 wr.heap.size (kAt K k) from by rw [hw4]; exact CaseC.new _ rfl)
     clear hw4 c0 c1 c2 c3 c4 d0 d1
     rcases ixC_cases (isId (kAt K k).c) C with ⟨hf, -⟩ | ⟨f, hf, hfl, -, -⟩
     ·
      have HF := Lib.hid (show fndC C (kAt K k).c = -1 from hf)
      clear hf
      have hfc := refFind_any A C ca (kAt K k).c w4 (HC.out.below (below_trans HBW.out hb4)) (by omega)
      rw [show fndC C (kAt K k).c = -1 from HF.out] at hfc
      refine ret_pure hfc ?_
      clear hfc
      have hb0 : Below w4.heap.size w4 w4 := Below.refl _ _
      obtain ⟨w0, hw0⟩ : ∃ w0, w0 = w4 := ⟨_, rfl⟩
      subst hw0
      have HW0 := Lib.hid (below_trans hb4 hb0)
      have VC := Lib.hid (VC0.out.below hb0)
      have LV := Lib.hid VC.out.lt
      have D0 := Lib.hid (HDC.out.below (below_trans HBR.out HW0.out)).c0
      have D1 := Lib.hid (HDC.out.below (below_trans HBR.out HW0.out)).c1
      have LD := Lib.hid (HDC.out.below (below_trans HBR.out HW0.out)).lt
      clear hb4 hb0 VC0
      have HV := Lib.hid (HBADK.out _ hlt (cas_1 HF.out))
      go_wp2_with fail
      refine wp_region_J2 (GI (R := Bl) [Pr.eq (.int .i64 (-1)), Pr.eq (.bool true), Pr.eq (.bool true), Pr.eq undef, Pr.eq undef, Pr.eq undef, Pr.eq undef, Pr.eq undef, Pr.eq undef, Pr.eq undef, Pr.eq undef, Pr.eq undef, Pr.eq (.bool true), Pr.eq (.bool true), Pr.eq undef, Pr.eq undef, Pr.eq undef, Pr.eq undef, Pr.eq (.bool true), Pr.eq (.bool true), Pr.eq undef, Pr.eq undef, Pr.eq undef, Pr.eq (.bool true), Pr.eq (.bool true), Pr.eq undef, Pr.eq undef, Pr.eq undef, Pr.eq (.bool true), Pr.eq (.bool true), Pr.eq undef, Pr.eq undef, Pr.eq undef, Pr.eq undef, Pr.eq undef, Pr.eq undef, Pr.eq undef, Pr.eq undef, Pr.eq undef, Pr.eq undef, Pr.eq undef, Pr.eq undef, Pr.eq undef, Pr.eq undef, Pr.eq (.bool true)] (GrS w0)) (by kernel_rfl) (by kernel_rfl) (by kernel_rfl) ?_ ?_ ?_
      case refine_1 => exact fun V => GI.start (GrS.start _ _ _)
      case refine_2 =>
       refine .cons (fun V Ld a W hLi hpre hR hI KK hK => ?_) ?_
       ·
        have o5 := (hR.old 5 (by kernel_rfl)).trans (show _ = Value.int .i64 (-1) from rfl)
        exact G_move rfl (.tmp 5) rfl o5 (hI.u0 hK rfl)
       refine .cons (fun V Ld a W hLi hpre hR hI KK hK => ?_) ?_
       ·
        have f0 := hI.ef hR hpre 0 rfl rfl rfl (by kernel_rfl)
        exact J_binOp rfl .lss _ (.tmp 33) (.const (.int .i64 0)) _ rfl (by rw [f0]; exact bt_lss _ _ _ _ W (by omega)) (hI.u0 hK rfl)
       refine .mf 1 rfl rfl rfl rfl rfl (by kernel_rfl) rfl ?_
       refine .un 2 rfl rfl rfl rfl (by kernel_rfl) rfl ?_
       refine .un 2 rfl rfl rfl rfl (by kernel_rfl) rfl ?_
       refine .un 2 rfl rfl rfl rfl (by kernel_rfl) rfl ?_
       refine .un 2 rfl rfl rfl rfl (by kernel_rfl) rfl ?_
       refine .un 2 rfl rfl rfl rfl (by kernel_rfl) rfl ?_
       refine .un 2 rfl rfl rfl rfl (by kernel_rfl) rfl ?_
       refine .un 2 rfl rfl rfl rfl (by kernel_rfl) rfl ?_
       refine .un 2 rfl rfl rfl rfl (by kernel_rfl) rfl ?_
       refine .un 2 rfl rfl rfl rfl (by kernel_rfl) rfl ?_
       refine .cons (fun V Ld a W hLi hpre hR hI KK hK => ?_) ?_
       ·
        have f2 := hI.ef hR hpre 2 rfl rfl rfl (by kernel_rfl)
        exact G_pick rfl (.tmp 35) (.const (.bool true)) (.tmp 44) rfl f2 (show _ = _ from rfl) (hI.u0 hK rfl)
       refine .mf 12 rfl rfl rfl rfl rfl (by kernel_rfl) rfl ?_
       refine .un 13 rfl rfl rfl rfl (by kernel_rfl) rfl ?_
       refine .un 13 rfl rfl rfl rfl (by kernel_rfl) rfl ?_
       refine .un 13 rfl rfl rfl rfl (by kernel_rfl) rfl ?_
       refine .un 13 rfl rfl rfl rfl (by kernel_rfl) rfl ?_
       refine .cons (fun V Ld a W hLi hpre hR hI KK hK => ?_) ?_
       ·
        have f13 := hI.ef hR hpre 13 rfl rfl rfl (by kernel_rfl)
        exact G_pick rfl (.tmp 46) (.const (.bool true)) (.tmp 50) rfl f13 (show _ = _ from rfl) (hI.u0 hK rfl)
       refine .mf 18 rfl rfl rfl rfl rfl (by kernel_rfl) rfl ?_
       refine .un 19 rfl rfl rfl rfl (by kernel_rfl) rfl ?_
       refine .un 19 rfl rfl rfl rfl (by kernel_rfl) rfl ?_
       refine .un 19 rfl rfl rfl rfl (by kernel_rfl) rfl ?_
       refine .cons (fun V Ld a W hLi hpre hR hI KK hK => ?_) ?_
       ·
        have f19 := hI.ef hR hpre 19 rfl rfl rfl (by kernel_rfl)
        exact G_pick rfl (.tmp 52) (.const (.bool true)) (.tmp 55) rfl f19 (show _ = _ from rfl) (hI.u0 hK rfl)
       refine .mf 23 rfl rfl rfl rfl rfl (by kernel_rfl) rfl ?_
       refine .un 24 rfl rfl rfl rfl (by kernel_rfl) rfl ?_
       refine .un 24 rfl rfl rfl rfl (by kernel_rfl) rfl ?_
       refine .un 24 rfl rfl rfl rfl (by kernel_rfl) rfl ?_
       refine .cons (fun V Ld a W hLi hpre hR hI KK hK => ?_) ?_
       ·
        have f24 := hI.ef hR hpre 24 rfl rfl rfl (by kernel_rfl)
        exact G_pick rfl (.tmp 57) (.const (.bool true)) (.tmp 60) rfl f24 (show _ = _ from rfl) (hI.u0 hK rfl)
       refine .mf 28 rfl rfl rfl rfl rfl (by kernel_rfl) rfl ?_
       refine .un 29 rfl rfl rfl rfl (by kernel_rfl) rfl ?_
       refine .un 29 rfl rfl rfl rfl (by kernel_rfl) rfl ?_
       refine .un 29 rfl rfl rfl rfl (by kernel_rfl) rfl ?_
       refine .unU 32 rfl rfl rfl rfl (by kernel_rfl) rfl ?_
       refine .unU 32 rfl rfl rfl rfl (by kernel_rfl) rfl ?_
       refine .unU 32 rfl rfl rfl rfl (by kernel_rfl) rfl ?_
       refine .unU 32 rfl rfl rfl rfl (by kernel_rfl) rfl ?_
       refine .unU 32 rfl rfl rfl rfl (by kernel_rfl) rfl ?_
       refine .unU 32 rfl rfl rfl rfl (by kernel_rfl) rfl ?_
       refine .unU 32 rfl rfl rfl rfl (by kernel_rfl) rfl ?_
       refine .unU 32 rfl rfl rfl rfl (by kernel_rfl) rfl ?_
       refine .unU 32 rfl rfl rfl rfl (by kernel_rfl) rfl ?_
       refine .unU 32 rfl rfl rfl rfl (by kernel_rfl) rfl ?_
       refine .un 29 rfl rfl rfl rfl (by kernel_rfl) rfl ?_
       refine .cons (fun V Ld a W hLi hpre hR hI KK hK => ?_) trivial
       ·
        have f29 := hI.ef hR hpre 29 rfl rfl rfl (by kernel_rfl)
        exact G_pick rfl (.tmp 62) (.const (.bool true)) (.tmp 76) rfl f29 (show _ = _ from rfl) (hI.u0 hK rfl)
      case refine_3 =>
       intro V Ld w9 hLd hI
       have e9 : V 44 = .bool true := hI.val 44 _ rfl (hLd 44 (by decide))
       have hb9 := hI.st.bl
       clear hI hLd
       simp only [finL, putL, Act.put, Nat.reduceAdd]
       rw [e9]
       clear e9
       generalize V 0 = v0, V 1 = v1
       generalize V 2 = v2, V 3 = v3
       generalize V 4 = v4, V 5 = v5
       generalize V 6 = v6, V 7 = v7
       generalize V 8 = v8, V 9 = v9
       generalize V 10 = v10, V 11 = v11
       generalize V 12 = v12, V 13 = v13
       generalize V 14 = v14, V 15 = v15
       generalize V 16 = v16, V 17 = v17
       generalize V 18 = v18, V 19 = v19
       generalize V 20 = v20, V 21 = v21
       generalize V 22 = v22, V 23 = v23
       generalize V 24 = v24, V 25 = v25
       generalize V 26 = v26, V 27 = v27
       generalize V 28 = v28, V 29 = v29
       generalize V 30 = v30, V 31 = v31
       generalize V 32 = v32, V 33 = v33
       generalize V 34 = v34, V 35 = v35
       generalize V 36 = v36, V 37 = v37
       generalize V 38 = v38, V 39 = v39
       generalize V 40 = v40, V 41 = v41
       generalize V 42 = v42, V 43 = v43
       clear V
       simp only [List.setIfInBounds_toArray, List.set_cons_succ, List.set_cons_zero]
       go_wp2_with fail
       go_ret
       exact RetB.int HV.out (HBW.out.trans ((HW0.out.trans (hb9.mono HW0.out.size)).mono HBW.out.size))
     ·
      have HF := Lib.hid (show fndC C (kAt K k).c = (f : Int) from hf)
      clear hf
      have hf2 : (0 : Int) ≤ (f : Int) := by omega
      have hf3 : (f : Int) < (C.length : Int) := by omega
      obtain ⟨b, off, x, rfl, hbx, -, -, x1, -, hx⟩ := (HC.out.below (below_trans HBW.out hb4)).elem hfl
      have X1a := Lib.hid x1
      have LB0 := Lib.hid hbx
      clear x1 hbx
      have hfc := refFind_any (some ⟨b, off, none⟩) C ca (kAt K k).c w4 (HC.out.below (below_trans HBW.out hb4)) (by omega)
      rw [show fndC C (kAt K k).c = (f : Int) from HF.out] at hfc
      refine ret_pure hfc ?_
      clear hfc
      have hb0 : Below w4.heap.size w4 w4 := Below.refl _ _
      obtain ⟨w0, hw0⟩ : ∃ w0, w0 = w4 := ⟨_, rfl⟩
      subst hw0
      have X1 := Lib.hid ((hb0.cell LB0.out).trans X1a.out)
      have LB := Lib.hid (Nat.lt_of_lt_of_le LB0.out hb0.size)
      clear X1a LB0
      have HW0 := Lib.hid (below_trans hb4 hb0)
      have VC := Lib.hid (VC0.out.below hb0)
      have LV := Lib.hid VC.out.lt
      have D0 := Lib.hid (HDC.out.below (below_trans HBR.out HW0.out)).c0
      have D1 := Lib.hid (HDC.out.below (below_trans HBR.out HW0.out)).c1
      have LD := Lib.hid (HDC.out.below (below_trans HBR.out HW0.out)).lt
      clear hb4 hb0 VC0
      cases q2 : eqS (cAt C f).o (kAt K k).o with
      | false =>
       have Q2 := Lib.hid q2
       clear q2
       have HV := Lib.hid (HBADK.out _ hlt (cas_2 HF.out Q2.out))
       have J2 := Lib.hid (show (x.o.toList == (kAt K k).o.toList) = false from by rw [hx.o]; exact Q2.out)
       clear hx
       go_wp2_with fail
       refine wp_region_J2 (GI (R := Bl) [Pr.eq (.int .i64 ((f : Int))), Pr.eq (.bool false), Pr.eq (.bool false), Pr.eq (.pointer (some ⟨w.heap.size, 0, none⟩)), Pr.eq (.slice (some ⟨b, off, none⟩) C.length ca), Pr.eq (.int .i64 ((f : Int))), Pr.eq (.pointer (some ⟨b, off + f * 3, none⟩)), Pr.eq (.pointer (some ⟨b, off + f * 3 + 1, none⟩)), Pr.eq (.string (x.o)), Pr.eq (.pointer (some ⟨wr.heap.size, 2, none⟩)), Pr.eq (.string ((kAt K k).o)), Pr.eq (.bool true), Pr.eq (.bool true), Pr.eq (.bool true), Pr.eq undef, Pr.eq undef, Pr.eq undef, Pr.eq undef, Pr.eq (.bool true), Pr.eq (.bool true), Pr.eq undef, Pr.eq undef, Pr.eq undef, Pr.eq (.bool true), Pr.eq (.bool true), Pr.eq undef, Pr.eq undef, Pr.eq undef, Pr.eq (.bool true), Pr.eq (.bool true), Pr.eq undef, Pr.eq undef, Pr.eq undef, Pr.eq undef, Pr.eq undef, Pr.eq undef, Pr.eq undef, Pr.eq undef, Pr.eq undef, Pr.eq undef, Pr.eq undef, Pr.eq undef, Pr.eq undef, Pr.eq undef, Pr.eq (.bool true)] (GrS w0)) (by kernel_rfl) (by kernel_rfl) (by kernel_rfl) ?_ ?_ ?_
       case refine_1 => exact fun V => GI.start (GrS.start _ _ _)
       case refine_2 =>
        refine .cons (fun V Ld a W hLi hpre hR hI KK hK => ?_) ?_
        ·
         have o5 := (hR.old 5 (by kernel_rfl)).trans (show _ = Value.int .i64 ((f : Int)) from rfl)
         exact G_move rfl (.tmp 5) rfl o5 (hI.u0 hK rfl)
        refine .cons (fun V Ld a W hLi hpre hR hI KK hK => ?_) ?_
        ·
         have f0 := hI.ef hR hpre 0 rfl rfl rfl (by kernel_rfl)
         exact J_binOp rfl .lss _ (.tmp 33) (.const (.int .i64 0)) _ rfl (by rw [f0]; exact bf_lss _ _ _ _ W (by omega)) (hI.u0 hK rfl)
        refine .mf 1 rfl rfl rfl rfl rfl (by kernel_rfl) rfl ?_
        refine .cons (fun V Ld a W hLi hpre hR hI KK hK => ?_) ?_
        ·
         refine G_gw hI hR hpre 2 rfl rfl rfl rfl (by kernel_rfl) ?_
         have o1 := (hR.old 1 (by kernel_rfl)).trans (show _ = Value.pointer (some ⟨w.heap.size, 0, none⟩) from rfl)
         exact J_fieldAddr rfl _ (.tmp 1) 0 rfl (by rw [o1]; go_simp) (hI.u0 hK rfl)
        refine .cons (fun V Ld a W hLi hpre hR hI KK hK => ?_) ?_
        ·
         refine G_gw hI hR hpre 2 rfl rfl rfl rfl (by kernel_rfl) ?_
         have f3 := hI.ef hR hpre 3 rfl rfl rfl (by kernel_rfl)
         have c := (hI.st.bl.cell LD.out).trans D0.out
         exact J_load rfl _ (.tmp 36) rfl (by rw [f3]; go_simp) (hI.u0 hK rfl)
        refine .cons (fun V Ld a W hLi hpre hR hI KK hK => ?_) ?_
        ·
         refine G_gw hI hR hpre 2 rfl rfl rfl rfl (by kernel_rfl) ?_
         have o5 := (hR.old 5 (by kernel_rfl)).trans (show _ = Value.int .i64 ((f : Int)) from rfl)
         exact G_move rfl (.tmp 5) rfl o5 (hI.u0 hK rfl)
        refine .cons (fun V Ld a W hLi hpre hR hI KK hK => ?_) ?_
        ·
         refine G_gw hI hR hpre 2 rfl rfl rfl rfl (by kernel_rfl) ?_
         have f4 := hI.ef hR hpre 4 rfl rfl rfl (by kernel_rfl)
         have f5 := hI.ef hR hpre 5 rfl rfl rfl (by kernel_rfl)
         exact J_indexAddr rfl _ (.tmp 37) (.tmp 38) rfl (by rw [f4, f5]; go_simp) (hI.u0 hK rfl)
        refine .cons (fun V Ld a W hLi hpre hR hI KK hK => ?_) ?_
        ·
         refine G_gw hI hR hpre 2 rfl rfl rfl rfl (by kernel_rfl) ?_
         have f6 := hI.ef hR hpre 6 rfl rfl rfl (by kernel_rfl)
         exact J_fieldAddr rfl _ (.tmp 39) 1 rfl (by rw [f6]; go_simp) (hI.u0 hK rfl)
        refine .cons (fun V Ld a W hLi hpre hR hI KK hK => ?_) ?_
        ·
         refine G_gw hI hR hpre 2 rfl rfl rfl rfl (by kernel_rfl) ?_
         have f7 := hI.ef hR hpre 7 rfl rfl rfl (by kernel_rfl)
         have c := (hI.st.bl.cell LB.out).trans X1.out
         exact J_load rfl _ (.tmp 40) rfl (by rw [f7]; go_simp) (hI.u0 hK rfl)
        refine .cons (fun V Ld a W hLi hpre hR hI KK hK => ?_) ?_
        ·
         refine G_gw hI hR hpre 2 rfl rfl rfl rfl (by kernel_rfl) ?_
         have o4 := (hR.old 4 (by kernel_rfl)).trans (show _ = Value.pointer (some ⟨wr.heap.size, 0, none⟩) from rfl)
         exact J_fieldAddr rfl _ (.tmp 4) 2 rfl (by rw [o4]; go_simp) (hI.u0 hK rfl)
        refine .cons (fun V Ld a W hLi hpre hR hI KK hK => ?_) ?_
        ·
         refine G_gw hI hR hpre 2 rfl rfl rfl rfl (by kernel_rfl) ?_
         have f9 := hI.ef hR hpre 9 rfl rfl rfl (by kernel_rfl)
         have c := (hI.st.bl.cell LV.out).trans VC.out.c2
         exact J_load rfl _ (.tmp 42) rfl (by rw [f9]; go_simp) (hI.u0 hK rfl)
        refine .cons (fun V Ld a W hLi hpre hR hI KK hK => ?_) ?_
        ·
         refine G_gw hI hR hpre 2 rfl rfl rfl rfl (by kernel_rfl) ?_
         have f8 := hI.ef hR hpre 8 rfl rfl rfl (by kernel_rfl)
         have f10 := hI.ef hR hpre 10 rfl rfl rfl (by kernel_rfl)
         exact J_binOp rfl .neq _ (.tmp 41) (.tmp 43) _ rfl (by rw [f8, f10]; exact bt_neS _ _ _ _ W J2.out) (hI.u0 hK rfl)
        refine .cons (fun V Ld a W hLi hpre hR hI KK hK => ?_) ?_
        ·
         have f2 := hI.ef hR hpre 2 rfl rfl rfl (by kernel_rfl)
         have f11 := hI.ef hR hpre 11 rfl rfl rfl (by kernel_rfl)
         exact G_pick rfl (.tmp 35) (.const (.bool true)) (.tmp 44) rfl f2 (show _ = _ from f11) (hI.u0 hK rfl)
        refine .mf 12 rfl rfl rfl rfl rfl (by kernel_rfl) rfl ?_
        refine .un 13 rfl rfl rfl rfl (by kernel_rfl) rfl ?_
        refine .un 13 rfl rfl rfl rfl (by kernel_rfl) rfl ?_
        refine .un 13 rfl rfl rfl rfl (by kernel_rfl) rfl ?_
        refine .un 13 rfl rfl rfl rfl (by kernel_rfl) rfl ?_
        refine .cons (fun V Ld a W hLi hpre hR hI KK hK => ?_) ?_
        ·
         have f13 := hI.ef hR hpre 13 rfl rfl rfl (by kernel_rfl)
         exact G_pick rfl (.tmp 46) (.const (.bool true)) (.tmp 50) rfl f13 (show _ = _ from rfl) (hI.u0 hK rfl)
        refine .mf 18 rfl rfl rfl rfl rfl (by kernel_rfl) rfl ?_
        refine .un 19 rfl rfl rfl rfl (by kernel_rfl) rfl ?_
        refine .un 19 rfl rfl rfl rfl (by kernel_rfl) rfl ?_
        refine .un 19 rfl rfl rfl rfl (by kernel_rfl) rfl ?_
        refine .cons (fun V Ld a W hLi hpre hR hI KK hK => ?_) ?_
        ·
         have f19 := hI.ef hR hpre 19 rfl rfl rfl (by kernel_rfl)
         exact G_pick rfl (.tmp 52) (.const (.bool true)) (.tmp 55) rfl f19 (show _ = _ from rfl) (hI.u0 hK rfl)
        refine .mf 23 rfl rfl rfl rfl rfl (by kernel_rfl) rfl ?_
        refine .un 24 rfl rfl rfl rfl (by kernel_rfl) rfl ?_
        refine .un 24 rfl rfl rfl rfl (by kernel_rfl) rfl ?_
        refine .un 24 rfl rfl rfl rfl (by kernel_rfl) rfl ?_
        refine .cons (fun V Ld a W hLi hpre hR hI KK hK => ?_) ?_
        ·
         have f24 := hI.ef hR hpre 24 rfl rfl rfl (by kernel_rfl)
         exact G_pick rfl (.tmp 57) (.const (.bool true)) (.tmp 60) rfl f24 (show _ = _ from rfl) (hI.u0 hK rfl)
        refine .mf 28 rfl rfl rfl rfl rfl (by kernel_rfl) rfl ?_
        refine .un 29 rfl rfl rfl rfl (by kernel_rfl) rfl ?_
        refine .un 29 rfl rfl rfl rfl (by kernel_rfl) rfl ?_
        refine .un 29 rfl rfl rfl rfl (by kernel_rfl) rfl ?_
        refine .unU 32 rfl rfl rfl rfl (by kernel_rfl) rfl ?_
        refine .unU 32 rfl rfl rfl rfl (by kernel_rfl) rfl ?_
        refine .unU 32 rfl rfl rfl rfl (by kernel_rfl) rfl ?_
        refine .unU 32 rfl rfl rfl rfl (by kernel_rfl) rfl ?_
        refine .unU 32 rfl rfl rfl rfl (by kernel_rfl) rfl ?_
        refine .unU 32 rfl rfl rfl rfl (by kernel_rfl) rfl ?_
        refine .unU 32 rfl rfl rfl rfl (by kernel_rfl) rfl ?_
        refine .unU 32 rfl rfl rfl rfl (by kernel_rfl) rfl ?_
        refine .unU 32 rfl rfl rfl rfl (by kernel_rfl) rfl ?_
        refine .unU 32 rfl rfl rfl rfl (by kernel_rfl) rfl ?_
        refine .un 29 rfl rfl rfl rfl (by kernel_rfl) rfl ?_
        refine .cons (fun V Ld a W hLi hpre hR hI KK hK => ?_) trivial
        ·
         have f29 := hI.ef hR hpre 29 rfl rfl rfl (by kernel_rfl)
         exact G_pick rfl (.tmp 62) (.const (.bool true)) (.tmp 76) rfl f29 (show _ = _ from rfl) (hI.u0 hK rfl)
       case refine_3 =>
        intro V Ld w9 hLd hI
        have e9 : V 44 = .bool true := hI.val 44 _ rfl (hLd 44 (by decide))
        have hb9 := hI.st.bl
        clear hI hLd
        simp only [finL, putL, Act.put, Nat.reduceAdd]
        rw [e9]
        clear e9
        generalize V 0 = v0, V 1 = v1
        generalize V 2 = v2, V 3 = v3
        generalize V 4 = v4, V 5 = v5
        generalize V 6 = v6, V 7 = v7
        generalize V 8 = v8, V 9 = v9
        generalize V 10 = v10, V 11 = v11
        generalize V 12 = v12, V 13 = v13
        generalize V 14 = v14, V 15 = v15
        generalize V 16 = v16, V 17 = v17
        generalize V 18 = v18, V 19 = v19
        generalize V 20 = v20, V 21 = v21
        generalize V 22 = v22, V 23 = v23
        generalize V 24 = v24, V 25 = v25
        generalize V 26 = v26, V 27 = v27
        generalize V 28 = v28, V 29 = v29
        generalize V 30 = v30, V 31 = v31
        generalize V 32 = v32, V 33 = v33
        generalize V 34 = v34, V 35 = v35
        generalize V 36 = v36, V 37 = v37
        generalize V 38 = v38, V 39 = v39
        generalize V 40 = v40, V 41 = v41
        generalize V 42 = v42, V 43 = v43
        clear V
        simp only [List.setIfInBounds_toArray, List.set_cons_succ, List.set_cons_zero]
        go_wp2_with fail
        go_ret
        exact RetB.int HV.out (HBW.out.trans ((HW0.out.trans (hb9.mono HW0.out.size)).mono HBW.out.size))
      | true =>
       have Q2 := Lib.hid q2
       clear q2
       cases q3 : lngB (kAt K k).r with
       | true =>
        have Q3 := Lib.hid q3
        clear q3
        have HV := Lib.hid (HBADK.out _ hlt (cas_3 Q3.out))
        have J2 := Lib.hid (show (x.o.toList == (kAt K k).o.toList) = true from by rw [hx.o]; exact Q2.out)
        have J3 := Lib.hid (show (256 : Int) < ((kAt K k).r.size : Int) from by have h := of_decide_eq_true Q3.out; omega)
        clear hx
        go_wp2_with fail
        refine wp_region_J2 (GI (R := Bl) [Pr.eq (.int .i64 ((f : Int))), Pr.eq (.bool false), Pr.eq (.bool false), Pr.eq (.pointer (some ⟨w.heap.size, 0, none⟩)), Pr.eq (.slice (some ⟨b, off, none⟩) C.length ca), Pr.eq (.int .i64 ((f : Int))), Pr.eq (.pointer (some ⟨b, off + f * 3, none⟩)), Pr.eq (.pointer (some ⟨b, off + f * 3 + 1, none⟩)), Pr.eq (.string (x.o)), Pr.eq (.pointer (some ⟨wr.heap.size, 2, none⟩)), Pr.eq (.string ((kAt K k).o)), Pr.eq (.bool false), Pr.eq (.bool false), Pr.eq (.bool false), Pr.eq (.pointer (some ⟨wr.heap.size, 1, none⟩)), Pr.eq (.string ((kAt K k).r)), Pr.eq (.int .i64 (((kAt K k).r.size : Int))), Pr.eq (.bool true), Pr.eq (.bool true), Pr.eq (.bool true), Pr.eq undef, Pr.eq undef, Pr.eq undef, Pr.eq (.bool true), Pr.eq (.bool true), Pr.eq undef, Pr.eq undef, Pr.eq undef, Pr.eq (.bool true), Pr.eq (.bool true), Pr.eq undef, Pr.eq undef, Pr.eq undef, Pr.eq undef, Pr.eq undef, Pr.eq undef, Pr.eq undef, Pr.eq undef, Pr.eq undef, Pr.eq undef, Pr.eq undef, Pr.eq undef, Pr.eq undef, Pr.eq undef, Pr.eq (.bool true)] (GrS w0)) (by kernel_rfl) (by kernel_rfl) (by kernel_rfl) ?_ ?_ ?_
        case refine_1 => exact fun V => GI.start (GrS.start _ _ _)
        case refine_2 =>
         refine .cons (fun V Ld a W hLi hpre hR hI KK hK => ?_) ?_
         ·
          have o5 := (hR.old 5 (by kernel_rfl)).trans (show _ = Value.int .i64 ((f : Int)) from rfl)
          exact G_move rfl (.tmp 5) rfl o5 (hI.u0 hK rfl)
         refine .cons (fun V Ld a W hLi hpre hR hI KK hK => ?_) ?_
         ·
          have f0 := hI.ef hR hpre 0 rfl rfl rfl (by kernel_rfl)
          exact J_binOp rfl .lss _ (.tmp 33) (.const (.int .i64 0)) _ rfl (by rw [f0]; exact bf_lss _ _ _ _ W (by omega)) (hI.u0 hK rfl)
         refine .mf 1 rfl rfl rfl rfl rfl (by kernel_rfl) rfl ?_
         refine .cons (fun V Ld a W hLi hpre hR hI KK hK => ?_) ?_
         ·
          refine G_gw hI hR hpre 2 rfl rfl rfl rfl (by kernel_rfl) ?_
          have o1 := (hR.old 1 (by kernel_rfl)).trans (show _ = Value.pointer (some ⟨w.heap.size, 0, none⟩) from rfl)
          exact J_fieldAddr rfl _ (.tmp 1) 0 rfl (by rw [o1]; go_simp) (hI.u0 hK rfl)
         refine .cons (fun V Ld a W hLi hpre hR hI KK hK => ?_) ?_
         ·
          refine G_gw hI hR hpre 2 rfl rfl rfl rfl (by kernel_rfl) ?_
          have f3 := hI.ef hR hpre 3 rfl rfl rfl (by kernel_rfl)
          have c := (hI.st.bl.cell LD.out).trans D0.out
          exact J_load rfl _ (.tmp 36) rfl (by rw [f3]; go_simp) (hI.u0 hK rfl)
         refine .cons (fun V Ld a W hLi hpre hR hI KK hK => ?_) ?_
         ·
          refine G_gw hI hR hpre 2 rfl rfl rfl rfl (by kernel_rfl) ?_
          have o5 := (hR.old 5 (by kernel_rfl)).trans (show _ = Value.int .i64 ((f : Int)) from rfl)
          exact G_move rfl (.tmp 5) rfl o5 (hI.u0 hK rfl)
         refine .cons (fun V Ld a W hLi hpre hR hI KK hK => ?_) ?_
         ·
          refine G_gw hI hR hpre 2 rfl rfl rfl rfl (by kernel_rfl) ?_
          have f4 := hI.ef hR hpre 4 rfl rfl rfl (by kernel_rfl)
          have f5 := hI.ef hR hpre 5 rfl rfl rfl (by kernel_rfl)
          exact J_indexAddr rfl _ (.tmp 37) (.tmp 38) rfl (by rw [f4, f5]; go_simp) (hI.u0 hK rfl)
         refine .cons (fun V Ld a W hLi hpre hR hI KK hK => ?_) ?_
         ·
          refine G_gw hI hR hpre 2 rfl rfl rfl rfl (by kernel_rfl) ?_
          have f6 := hI.ef hR hpre 6 rfl rfl rfl (by kernel_rfl)
          exact J_fieldAddr rfl _ (.tmp 39) 1 rfl (by rw [f6]; go_simp) (hI.u0 hK rfl)
         refine .cons (fun V Ld a W hLi hpre hR hI KK hK => ?_) ?_
         ·
          refine G_gw hI hR hpre 2 rfl rfl rfl rfl (by kernel_rfl) ?_
          have f7 := hI.ef hR hpre 7 rfl rfl rfl (by kernel_rfl)
          have c := (hI.st.bl.cell LB.out).trans X1.out
          exact J_load rfl _ (.tmp 40) rfl (by rw [f7]; go_simp) (hI.u0 hK rfl)
         refine .cons (fun V Ld a W hLi hpre hR hI KK hK => ?_) ?_
         ·
          refine G_gw hI hR hpre 2 rfl rfl rfl rfl (by kernel_rfl) ?_
          have o4 := (hR.old 4 (by kernel_rfl)).trans (show _ = Value.pointer (some ⟨wr.heap.size, 0, none⟩) from rfl)
          exact J_fieldAddr rfl _ (.tmp 4) 2 rfl (by rw [o4]; go_simp) (hI.u0 hK rfl)
         refine .cons (fun V Ld a W hLi hpre hR hI KK hK => ?_) ?_
         ·
          refine G_gw hI hR hpre 2 rfl rfl rfl rfl (by kernel_rfl) ?_
          have f9 := hI.ef hR hpre 9 rfl rfl rfl (by kernel_rfl)
          have c := (hI.st.bl.cell LV.out).trans VC.out.c2
          exact J_load rfl _ (.tmp 42) rfl (by rw [f9]; go_simp) (hI.u0 hK rfl)
         refine .cons (fun V Ld a W hLi hpre hR hI KK hK => ?_) ?_
         ·
          refine G_gw hI hR hpre 2 rfl rfl rfl rfl (by kernel_rfl) ?_
          have f8 := hI.ef hR hpre 8 rfl rfl rfl (by kernel_rfl)
          have f10 := hI.ef hR hpre 10 rfl rfl rfl (by kernel_rfl)
          exact J_binOp rfl .neq _ (.tmp 41) (.tmp 43) _ rfl (by rw [f8, f10]; exact bf_neS _ _ _ _ W J2.out) (hI.u0 hK rfl)
         refine .cons (fun V Ld a W hLi hpre hR hI KK hK => ?_) ?_
         ·
          have f2 := hI.ef hR hpre 2 rfl rfl rfl (by kernel_rfl)
          have f11 := hI.ef hR hpre 11 rfl rfl rfl (by kernel_rfl)
          exact G_pick rfl (.tmp 35) (.const (.bool true)) (.tmp 44) rfl f2 (show _ = _ from f11) (hI.u0 hK rfl)
         refine .mf 12 rfl rfl rfl rfl rfl (by kernel_rfl) rfl ?_
         refine .cons (fun V Ld a W hLi hpre hR hI KK hK => ?_) ?_
         ·
          refine G_gw hI hR hpre 13 rfl rfl rfl rfl (by kernel_rfl) ?_
          have o4 := (hR.old 4 (by kernel_rfl)).trans (show _ = Value.pointer (some ⟨wr.heap.size, 0, none⟩) from rfl)
          exact J_fieldAddr rfl _ (.tmp 4) 1 rfl (by rw [o4]; go_simp) (hI.u0 hK rfl)
         refine .cons (fun V Ld a W hLi hpre hR hI KK hK => ?_) ?_
         ·
          refine G_gw hI hR hpre 13 rfl rfl rfl rfl (by kernel_rfl) ?_
          have f14 := hI.ef hR hpre 14 rfl rfl rfl (by kernel_rfl)
          have c := (hI.st.bl.cell LV.out).trans VC.out.c1
          exact J_load rfl _ (.tmp 47) rfl (by rw [f14]; go_simp) (hI.u0 hK rfl)
         refine .cons (fun V Ld a W hLi hpre hR hI KK hK => ?_) ?_
         ·
          refine G_gw hI hR hpre 13 rfl rfl rfl rfl (by kernel_rfl) ?_
          have f15 := hI.ef hR hpre 15 rfl rfl rfl (by kernel_rfl)
          exact G_len rfl (.tmp 48) _ rfl (by rw [f15]; go_simp) (hI.u0 hK rfl)
         refine .cons (fun V Ld a W hLi hpre hR hI KK hK => ?_) ?_
         ·
          refine G_gw hI hR hpre 13 rfl rfl rfl rfl (by kernel_rfl) ?_
          have f16 := hI.ef hR hpre 16 rfl rfl rfl (by kernel_rfl)
          exact J_binOp rfl .gtr _ (.tmp 49) (.const (.int .i64 256)) _ rfl (by rw [f16]; exact bt_gtr _ _ _ _ W J3.out) (hI.u0 hK rfl)
         refine .cons (fun V Ld a W hLi hpre hR hI KK hK => ?_) ?_
         ·
          have f13 := hI.ef hR hpre 13 rfl rfl rfl (by kernel_rfl)
          have f17 := hI.ef hR hpre 17 rfl rfl rfl (by kernel_rfl)
          exact G_pick rfl (.tmp 46) (.const (.bool true)) (.tmp 50) rfl f13 (show _ = _ from f17) (hI.u0 hK rfl)
         refine .mf 18 rfl rfl rfl rfl rfl (by kernel_rfl) rfl ?_
         refine .un 19 rfl rfl rfl rfl (by kernel_rfl) rfl ?_
         refine .un 19 rfl rfl rfl rfl (by kernel_rfl) rfl ?_
         refine .un 19 rfl rfl rfl rfl (by kernel_rfl) rfl ?_
         refine .cons (fun V Ld a W hLi hpre hR hI KK hK => ?_) ?_
         ·
          have f19 := hI.ef hR hpre 19 rfl rfl rfl (by kernel_rfl)
          exact G_pick rfl (.tmp 52) (.const (.bool true)) (.tmp 55) rfl f19 (show _ = _ from rfl) (hI.u0 hK rfl)
         refine .mf 23 rfl rfl rfl rfl rfl (by kernel_rfl) rfl ?_
         refine .un 24 rfl rfl rfl rfl (by kernel_rfl) rfl ?_
         refine .un 24 rfl rfl rfl rfl (by kernel_rfl) rfl ?_
         refine .un 24 rfl rfl rfl rfl (by kernel_rfl) rfl ?_
         refine .cons (fun V Ld a W hLi hpre hR hI KK hK => ?_) ?_
         ·
          have f24 := hI.ef hR hpre 24 rfl rfl rfl (by kernel_rfl)
          exact G_pick rfl (.tmp 57) (.const (.bool true)) (.tmp 60) rfl f24 (show _ = _ from rfl) (hI.u0 hK rfl)
         refine .mf 28 rfl rfl rfl rfl rfl (by kernel_rfl) rfl ?_
         refine .un 29 rfl rfl rfl rfl (by kernel_rfl) rfl ?_
         refine .un 29 rfl rfl rfl rfl (by kernel_rfl) rfl ?_
         refine .un 29 rfl rfl rfl rfl (by kernel_rfl) rfl ?_
         refine .unU 32 rfl rfl rfl rfl (by kernel_rfl) rfl ?_
         refine .unU 32 rfl rfl rfl rfl (by kernel_rfl) rfl ?_
         refine .unU 32 rfl rfl rfl rfl (by kernel_rfl) rfl ?_
         refine .unU 32 rfl rfl rfl rfl (by kernel_rfl) rfl ?_
         refine .unU 32 rfl rfl rfl rfl (by kernel_rfl) rfl ?_
         refine .unU 32 rfl rfl rfl rfl (by kernel_rfl) rfl ?_
         refine .unU 32 rfl rfl rfl rfl (by kernel_rfl) rfl ?_
         refine .unU 32 rfl rfl rfl rfl (by kernel_rfl) rfl ?_
         refine .unU 32 rfl rfl rfl rfl (by kernel_rfl) rfl ?_
         refine .unU 32 rfl rfl rfl rfl (by kernel_rfl) rfl ?_
         refine .un 29 rfl rfl rfl rfl (by kernel_rfl) rfl ?_
         refine .cons (fun V Ld a W hLi hpre hR hI KK hK => ?_) trivial
         ·
          have f29 := hI.ef hR hpre 29 rfl rfl rfl (by kernel_rfl)
          exact G_pick rfl (.tmp 62) (.const (.bool true)) (.tmp 76) rfl f29 (show _ = _ from rfl) (hI.u0 hK rfl)
        case refine_3 =>
         intro V Ld w9 hLd hI
         have e9 : V 44 = .bool true := hI.val 44 _ rfl (hLd 44 (by decide))
         have hb9 := hI.st.bl
         clear hI hLd
         simp only [finL, putL, Act.put, Nat.reduceAdd]
         rw [e9]
         clear e9
         generalize V 0 = v0, V 1 = v1
         generalize V 2 = v2, V 3 = v3
         generalize V 4 = v4, V 5 = v5
         generalize V 6 = v6, V 7 = v7
         generalize V 8 = v8, V 9 = v9
         generalize V 10 = v10, V 11 = v11
         generalize V 12 = v12, V 13 = v13
         generalize V 14 = v14, V 15 = v15
         generalize V 16 = v16, V 17 = v17
         generalize V 18 = v18, V 19 = v19
         generalize V 20 = v20, V 21 = v21
         generalize V 22 = v22, V 23 = v23
         generalize V 24 = v24, V 25 = v25
         generalize V 26 = v26, V 27 = v27
         generalize V 28 = v28, V 29 = v29
         generalize V 30 = v30, V 31 = v31
         generalize V 32 = v32, V 33 = v33
         generalize V 34 = v34, V 35 = v35
         generalize V 36 = v36, V 37 = v37
         generalize V 38 = v38, V 39 = v39
         generalize V 40 = v40, V 41 = v41
         generalize V 42 = v42, V 43 = v43
         clear V
         simp only [List.setIfInBounds_toArray, List.set_cons_succ, List.set_cons_zero]
         go_wp2_with fail
         go_ret
         exact RetB.int HV.out (HBW.out.trans ((HW0.out.trans (hb9.mono HW0.out.size)).mono HBW.out.size))
       | false =>
        have Q3 := Lib.hid q3
        clear q3
        cases q4 : inI (kAt K k).t 0 1099511627776 with
        | false =>
         have Q4 := Lib.hid q4
         clear q4
         by_cases ql : (kAt K k).t < 0
         ·
          skip
          have QL := Lib.hid ql
          clear ql
          have HV := Lib.hid (HBADK.out _ hlt (cas_4 Q4.out))
          have J2 := Lib.hid (show (x.o.toList == (kAt K k).o.toList) = true from by rw [hx.o]; exact Q2.out)
          have J3 := Lib.hid (show ((kAt K k).r.size : Int) ≤ 256 from by have h := of_decide_eq_false Q3.out; omega)
          have J4 := Lib.hid (show (kAt K k).t < (0 : Int) from QL.out)
          clear hx
          go_wp2_with fail
          refine wp_region_J2 (GI (R := Bl) [Pr.eq (.int .i64 ((f : Int))), Pr.eq (.bool false), Pr.eq (.bool false), Pr.eq (.pointer (some ⟨w.heap.size, 0, none⟩)), Pr.eq (.slice (some ⟨b, off, none⟩) C.length ca), Pr.eq (.int .i64 ((f : Int))), Pr.eq (.pointer (some ⟨b, off + f * 3, none⟩)), Pr.eq (.pointer (some ⟨b, off + f * 3 + 1, none⟩)), Pr.eq (.string (x.o)), Pr.eq (.pointer (some ⟨wr.heap.size, 2, none⟩)), Pr.eq (.string ((kAt K k).o)), Pr.eq (.bool false), Pr.eq (.bool false), Pr.eq (.bool false), Pr.eq (.pointer (some ⟨wr.heap.size, 1, none⟩)), Pr.eq (.string ((kAt K k).r)), Pr.eq (.int .i64 (((kAt K k).r.size : Int))), Pr.eq (.bool false), Pr.eq (.bool false), Pr.eq (.bool false), Pr.eq (.pointer (some ⟨wr.heap.size, 3, none⟩)), Pr.eq (.int .i64 ((kAt K k).t)), Pr.eq (.bool true), Pr.eq (.bool true), Pr.eq (.bool true), Pr.eq undef, Pr.eq undef, Pr.eq undef, Pr.eq (.bool true), Pr.eq (.bool true), Pr.eq undef, Pr.eq undef, Pr.eq undef, Pr.eq undef, Pr.eq undef, Pr.eq undef, Pr.eq undef, Pr.eq undef, Pr.eq undef, Pr.eq undef, Pr.eq undef, Pr.eq undef, Pr.eq undef, Pr.eq undef, Pr.eq (.bool true)] (GrS w0)) (by kernel_rfl) (by kernel_rfl) (by kernel_rfl) ?_ ?_ ?_
          case refine_1 => exact fun V => GI.start (GrS.start _ _ _)
          case refine_2 =>
           refine .cons (fun V Ld a W hLi hpre hR hI KK hK => ?_) ?_
           ·
            have o5 := (hR.old 5 (by kernel_rfl)).trans (show _ = Value.int .i64 ((f : Int)) from rfl)
            exact G_move rfl (.tmp 5) rfl o5 (hI.u0 hK rfl)
           refine .cons (fun V Ld a W hLi hpre hR hI KK hK => ?_) ?_
           ·
            have f0 := hI.ef hR hpre 0 rfl rfl rfl (by kernel_rfl)
            exact J_binOp rfl .lss _ (.tmp 33) (.const (.int .i64 0)) _ rfl (by rw [f0]; exact bf_lss _ _ _ _ W (by omega)) (hI.u0 hK rfl)
           refine .mf 1 rfl rfl rfl rfl rfl (by kernel_rfl) rfl ?_
           refine .cons (fun V Ld a W hLi hpre hR hI KK hK => ?_) ?_
           ·
            refine G_gw hI hR hpre 2 rfl rfl rfl rfl (by kernel_rfl) ?_
            have o1 := (hR.old 1 (by kernel_rfl)).trans (show _ = Value.pointer (some ⟨w.heap.size, 0, none⟩) from rfl)
            exact J_fieldAddr rfl _ (.tmp 1) 0 rfl (by rw [o1]; go_simp) (hI.u0 hK rfl)
           refine .cons (fun V Ld a W hLi hpre hR hI KK hK => ?_) ?_
           ·
            refine G_gw hI hR hpre 2 rfl rfl rfl rfl (by kernel_rfl) ?_
            have f3 := hI.ef hR hpre 3 rfl rfl rfl (by kernel_rfl)
            have c := (hI.st.bl.cell LD.out).trans D0.out
            exact J_load rfl _ (.tmp 36) rfl (by rw [f3]; go_simp) (hI.u0 hK rfl)
           refine .cons (fun V Ld a W hLi hpre hR hI KK hK => ?_) ?_
           ·
            refine G_gw hI hR hpre 2 rfl rfl rfl rfl (by kernel_rfl) ?_
            have o5 := (hR.old 5 (by kernel_rfl)).trans (show _ = Value.int .i64 ((f : Int)) from rfl)
            exact G_move rfl (.tmp 5) rfl o5 (hI.u0 hK rfl)
           refine .cons (fun V Ld a W hLi hpre hR hI KK hK => ?_) ?_
           ·
            refine G_gw hI hR hpre 2 rfl rfl rfl rfl (by kernel_rfl) ?_
            have f4 := hI.ef hR hpre 4 rfl rfl rfl (by kernel_rfl)
            have f5 := hI.ef hR hpre 5 rfl rfl rfl (by kernel_rfl)
            exact J_indexAddr rfl _ (.tmp 37) (.tmp 38) rfl (by rw [f4, f5]; go_simp) (hI.u0 hK rfl)
           refine .cons (fun V Ld a W hLi hpre hR hI KK hK => ?_) ?_
           ·
            refine G_gw hI hR hpre 2 rfl rfl rfl rfl (by kernel_rfl) ?_
            have f6 := hI.ef hR hpre 6 rfl rfl rfl (by kernel_rfl)
            exact J_fieldAddr rfl _ (.tmp 39) 1 rfl (by rw [f6]; go_simp) (hI.u0 hK rfl)
           refine .cons (fun V Ld a W hLi hpre hR hI KK hK => ?_) ?_
           ·
            refine G_gw hI hR hpre 2 rfl rfl rfl rfl (by kernel_rfl) ?_
            have f7 := hI.ef hR hpre 7 rfl rfl rfl (by kernel_rfl)
            have c := (hI.st.bl.cell LB.out).trans X1.out
            exact J_load rfl _ (.tmp 40) rfl (by rw [f7]; go_simp) (hI.u0 hK rfl)
           refine .cons (fun V Ld a W hLi hpre hR hI KK hK => ?_) ?_
           ·
            refine G_gw hI hR hpre 2 rfl rfl rfl rfl (by kernel_rfl) ?_
            have o4 := (hR.old 4 (by kernel_rfl)).trans (show _ = Value.pointer (some ⟨wr.heap.size, 0, none⟩) from rfl)
            exact J_fieldAddr rfl _ (.tmp 4) 2 rfl (by rw [o4]; go_simp) (hI.u0 hK rfl)
           refine .cons (fun V Ld a W hLi hpre hR hI KK hK => ?_) ?_
           ·
            refine G_gw hI hR hpre 2 rfl rfl rfl rfl (by kernel_rfl) ?_
            have f9 := hI.ef hR hpre 9 rfl rfl rfl (by kernel_rfl)
            have c := (hI.st.bl.cell LV.out).trans VC.out.c2
            exact J_load rfl _ (.tmp 42) rfl (by rw [f9]; go_simp) (hI.u0 hK rfl)
           refine .cons (fun V Ld a W hLi hpre hR hI KK hK => ?_) ?_
           ·
            refine G_gw hI hR hpre 2 rfl rfl rfl rfl (by kernel_rfl) ?_
            have f8 := hI.ef hR hpre 8 rfl rfl rfl (by kernel_rfl)
            have f10 := hI.ef hR hpre 10 rfl rfl rfl (by kernel_rfl)
            exact J_binOp rfl .neq _ (.tmp 41) (.tmp 43) _ rfl (by rw [f8, f10]; exact bf_neS _ _ _ _ W J2.out) (hI.u0 hK rfl)
           refine .cons (fun V Ld a W hLi hpre hR hI KK hK => ?_) ?_
           ·
            have f2 := hI.ef hR hpre 2 rfl rfl rfl (by kernel_rfl)
            have f11 := hI.ef hR hpre 11 rfl rfl rfl (by kernel_rfl)
            exact G_pick rfl (.tmp 35) (.const (.bool true)) (.tmp 44) rfl f2 (show _ = _ from f11) (hI.u0 hK rfl)
           refine .mf 12 rfl rfl rfl rfl rfl (by kernel_rfl) rfl ?_
           refine .cons (fun V Ld a W hLi hpre hR hI KK hK => ?_) ?_
           ·
            refine G_gw hI hR hpre 13 rfl rfl rfl rfl (by kernel_rfl) ?_
            have o4 := (hR.old 4 (by kernel_rfl)).trans (show _ = Value.pointer (some ⟨wr.heap.size, 0, none⟩) from rfl)
            exact J_fieldAddr rfl _ (.tmp 4) 1 rfl (by rw [o4]; go_simp) (hI.u0 hK rfl)
           refine .cons (fun V Ld a W hLi hpre hR hI KK hK => ?_) ?_
           ·
            refine G_gw hI hR hpre 13 rfl rfl rfl rfl (by kernel_rfl) ?_
            have f14 := hI.ef hR hpre 14 rfl rfl rfl (by kernel_rfl)
            have c := (hI.st.bl.cell LV.out).trans VC.out.c1
            exact J_load rfl _ (.tmp 47) rfl (by rw [f14]; go_simp) (hI.u0 hK rfl)
           refine .cons (fun V Ld a W hLi hpre hR hI KK hK => ?_) ?_
           ·
            refine G_gw hI hR hpre 13 rfl rfl rfl rfl (by kernel_rfl) ?_
            have f15 := hI.ef hR hpre 15 rfl rfl rfl (by kernel_rfl)
            exact G_len rfl (.tmp 48) _ rfl (by rw [f15]; go_simp) (hI.u0 hK rfl)
           refine .cons (fun V Ld a W hLi hpre hR hI KK hK => ?_) ?_
           ·
            refine G_gw hI hR hpre 13 rfl rfl rfl rfl (by kernel_rfl) ?_
            have f16 := hI.ef hR hpre 16 rfl rfl rfl (by kernel_rfl)
            exact J_binOp rfl .gtr _ (.tmp 49) (.const (.int .i64 256)) _ rfl (by rw [f16]; exact bf_gtr _ _ _ _ W J3.out) (hI.u0 hK rfl)
           refine .cons (fun V Ld a W hLi hpre hR hI KK hK => ?_) ?_
           ·
            have f13 := hI.ef hR hpre 13 rfl rfl rfl (by kernel_rfl)
            have f17 := hI.ef hR hpre 17 rfl rfl rfl (by kernel_rfl)
            exact G_pick rfl (.tmp 46) (.const (.bool true)) (.tmp 50) rfl f13 (show _ = _ from f17) (hI.u0 hK rfl)
           refine .mf 18 rfl rfl rfl rfl rfl (by kernel_rfl) rfl ?_
           refine .cons (fun V Ld a W hLi hpre hR hI KK hK => ?_) ?_
           ·
            refine G_gw hI hR hpre 19 rfl rfl rfl rfl (by kernel_rfl) ?_
            have o4 := (hR.old 4 (by kernel_rfl)).trans (show _ = Value.pointer (some ⟨wr.heap.size, 0, none⟩) from rfl)
            exact J_fieldAddr rfl _ (.tmp 4) 3 rfl (by rw [o4]; go_simp) (hI.u0 hK rfl)
           refine .cons (fun V Ld a W hLi hpre hR hI KK hK => ?_) ?_
           ·
            refine G_gw hI hR hpre 19 rfl rfl rfl rfl (by kernel_rfl) ?_
            have f20 := hI.ef hR hpre 20 rfl rfl rfl (by kernel_rfl)
            have c := (hI.st.bl.cell LV.out).trans VC.out.c3
            exact J_load rfl _ (.tmp 53) rfl (by rw [f20]; go_simp) (hI.u0 hK rfl)
           refine .cons (fun V Ld a W hLi hpre hR hI KK hK => ?_) ?_
           ·
            refine G_gw hI hR hpre 19 rfl rfl rfl rfl (by kernel_rfl) ?_
            have f21 := hI.ef hR hpre 21 rfl rfl rfl (by kernel_rfl)
            exact J_binOp rfl .lss _ (.tmp 54) (.const (.int .i64 0)) _ rfl (by rw [f21]; exact bt_lss _ _ _ _ W J4.out) (hI.u0 hK rfl)
           refine .cons (fun V Ld a W hLi hpre hR hI KK hK => ?_) ?_
           ·
            have f19 := hI.ef hR hpre 19 rfl rfl rfl (by kernel_rfl)
            have f22 := hI.ef hR hpre 22 rfl rfl rfl (by kernel_rfl)
            exact G_pick rfl (.tmp 52) (.const (.bool true)) (.tmp 55) rfl f19 (show _ = _ from f22) (hI.u0 hK rfl)
           refine .mf 23 rfl rfl rfl rfl rfl (by kernel_rfl) rfl ?_
           refine .un 24 rfl rfl rfl rfl (by kernel_rfl) rfl ?_
           refine .un 24 rfl rfl rfl rfl (by kernel_rfl) rfl ?_
           refine .un 24 rfl rfl rfl rfl (by kernel_rfl) rfl ?_
           refine .cons (fun V Ld a W hLi hpre hR hI KK hK => ?_) ?_
           ·
            have f24 := hI.ef hR hpre 24 rfl rfl rfl (by kernel_rfl)
            exact G_pick rfl (.tmp 57) (.const (.bool true)) (.tmp 60) rfl f24 (show _ = _ from rfl) (hI.u0 hK rfl)
           refine .mf 28 rfl rfl rfl rfl rfl (by kernel_rfl) rfl ?_
           refine .un 29 rfl rfl rfl rfl (by kernel_rfl) rfl ?_
           refine .un 29 rfl rfl rfl rfl (by kernel_rfl) rfl ?_
           refine .un 29 rfl rfl rfl rfl (by kernel_rfl) rfl ?_
           refine .unU 32 rfl rfl rfl rfl (by kernel_rfl) rfl ?_
           refine .unU 32 rfl rfl rfl rfl (by kernel_rfl) rfl ?_
           refine .unU 32 rfl rfl rfl rfl (by kernel_rfl) rfl ?_
           refine .unU 32 rfl rfl rfl rfl (by kernel_rfl) rfl ?_
           refine .unU 32 rfl rfl rfl rfl (by kernel_rfl) rfl ?_
           refine .unU 32 rfl rfl rfl rfl (by kernel_rfl) rfl ?_
           refine .unU 32 rfl rfl rfl rfl (by kernel_rfl) rfl ?_
           refine .unU 32 rfl rfl rfl rfl (by kernel_rfl) rfl ?_
           refine .unU 32 rfl rfl rfl rfl (by kernel_rfl) rfl ?_
           refine .unU 32 rfl rfl rfl rfl (by kernel_rfl) rfl ?_
           refine .un 29 rfl rfl rfl rfl (by kernel_rfl) rfl ?_
           refine .cons (fun V Ld a W hLi hpre hR hI KK hK => ?_) trivial
           ·
            have f29 := hI.ef hR hpre 29 rfl rfl rfl (by kernel_rfl)
            exact G_pick rfl (.tmp 62) (.const (.bool true)) (.tmp 76) rfl f29 (show _ = _ from rfl) (hI.u0 hK rfl)
          case refine_3 =>
           intro V Ld w9 hLd hI
           have e9 : V 44 = .bool true := hI.val 44 _ rfl (hLd 44 (by decide))
           have hb9 := hI.st.bl
           clear hI hLd
           simp only [finL, putL, Act.put, Nat.reduceAdd]
           rw [e9]
           clear e9
           generalize V 0 = v0, V 1 = v1
           generalize V 2 = v2, V 3 = v3
           generalize V 4 = v4, V 5 = v5
           generalize V 6 = v6, V 7 = v7
           generalize V 8 = v8, V 9 = v9
           generalize V 10 = v10, V 11 = v11
           generalize V 12 = v12, V 13 = v13
           generalize V 14 = v14, V 15 = v15
           generalize V 16 = v16, V 17 = v17
           generalize V 18 = v18, V 19 = v19
           generalize V 20 = v20, V 21 = v21
           generalize V 22 = v22, V 23 = v23
           generalize V 24 = v24, V 25 = v25
           generalize V 26 = v26, V 27 = v27
           generalize V 28 = v28, V 29 = v29
           generalize V 30 = v30, V 31 = v31
           generalize V 32 = v32, V 33 = v33
           generalize V 34 = v34, V 35 = v35
           generalize V 36 = v36, V 37 = v37
           generalize V 38 = v38, V 39 = v39
           generalize V 40 = v40, V 41 = v41
           generalize V 42 = v42, V 43 = v43
           clear V
           simp only [List.setIfInBounds_toArray, List.set_cons_succ, List.set_cons_zero]
           go_wp2_with fail
           go_ret
           exact RetB.int HV.out (HBW.out.trans ((HW0.out.trans (hb9.mono HW0.out.size)).mono HBW.out.size))
         ·
          skip
          have QL := Lib.hid (show (0 : Int) ≤ (kAt K k).t by omega)
          clear ql
          have HV := Lib.hid (HBADK.out _ hlt (cas_4 Q4.out))
          have J2 := Lib.hid (show (x.o.toList == (kAt K k).o.toList) = true from by rw [hx.o]; exact Q2.out)
          have J3 := Lib.hid (show ((kAt K k).r.size : Int) ≤ 256 from by have h := of_decide_eq_false Q3.out; omega)
          have J4a := Lib.hid (show (0 : Int) ≤ (kAt K k).t from QL.out)
          have J4 := Lib.hid (show (1099511627776 : Int) < (kAt K k).t from by have h := inI_no Q4.out; have := QL.out; omega)
          clear hx
          go_wp2_with fail
          refine wp_region_J2 (GI (R := Bl) [Pr.eq (.int .i64 ((f : Int))), Pr.eq (.bool false), Pr.eq (.bool false), Pr.eq (.pointer (some ⟨w.heap.size, 0, none⟩)), Pr.eq (.slice (some ⟨b, off, none⟩) C.length ca), Pr.eq (.int .i64 ((f : Int))), Pr.eq (.pointer (some ⟨b, off + f * 3, none⟩)), Pr.eq (.pointer (some ⟨b, off + f * 3 + 1, none⟩)), Pr.eq (.string (x.o)), Pr.eq (.pointer (some ⟨wr.heap.size, 2, none⟩)), Pr.eq (.string ((kAt K k).o)), Pr.eq (.bool false), Pr.eq (.bool false), Pr.eq (.bool false), Pr.eq (.pointer (some ⟨wr.heap.size, 1, none⟩)), Pr.eq (.string ((kAt K k).r)), Pr.eq (.int .i64 (((kAt K k).r.size : Int))), Pr.eq (.bool false), Pr.eq (.bool false), Pr.eq (.bool false), Pr.eq (.pointer (some ⟨wr.heap.size, 3, none⟩)), Pr.eq (.int .i64 ((kAt K k).t)), Pr.eq (.bool false), Pr.eq (.bool false), Pr.eq (.bool false), Pr.eq (.pointer (some ⟨wr.heap.size, 3, none⟩)), Pr.eq (.int .i64 ((kAt K k).t)), Pr.eq (.bool true), Pr.eq (.bool true), Pr.eq (.bool true), Pr.eq undef, Pr.eq undef, Pr.eq undef, Pr.eq undef, Pr.eq undef, Pr.eq undef, Pr.eq undef, Pr.eq undef, Pr.eq undef, Pr.eq undef, Pr.eq undef, Pr.eq undef, Pr.eq undef, Pr.eq undef, Pr.eq (.bool true)] (GrS w0)) (by kernel_rfl) (by kernel_rfl) (by kernel_rfl) ?_ ?_ ?_
          case refine_1 => exact fun V => GI.start (GrS.start _ _ _)
          case refine_2 =>
           refine .cons (fun V Ld a W hLi hpre hR hI KK hK => ?_) ?_
           ·
            have o5 := (hR.old 5 (by kernel_rfl)).trans (show _ = Value.int .i64 ((f : Int)) from rfl)
            exact G_move rfl (.tmp 5) rfl o5 (hI.u0 hK rfl)
           refine .cons (fun V Ld a W hLi hpre hR hI KK hK => ?_) ?_
           ·
            have f0 := hI.ef hR hpre 0 rfl rfl rfl (by kernel_rfl)
            exact J_binOp rfl .lss _ (.tmp 33) (.const (.int .i64 0)) _ rfl (by rw [f0]; exact bf_lss _ _ _ _ W (by omega)) (hI.u0 hK rfl)
           refine .mf 1 rfl rfl rfl rfl rfl (by kernel_rfl) rfl ?_
           refine .cons (fun V Ld a W hLi hpre hR hI KK hK => ?_) ?_
           ·
            refine G_gw hI hR hpre 2 rfl rfl rfl rfl (by kernel_rfl) ?_
            have o1 := (hR.old 1 (by kernel_rfl)).trans (show _ = Value.pointer (some ⟨w.heap.size, 0, none⟩) from rfl)
            exact J_fieldAddr rfl _ (.tmp 1) 0 rfl (by rw [o1]; go_simp) (hI.u0 hK rfl)
           refine .cons (fun V Ld a W hLi hpre hR hI KK hK => ?_) ?_
           ·
            refine G_gw hI hR hpre 2 rfl rfl rfl rfl (by kernel_rfl) ?_
            have f3 := hI.ef hR hpre 3 rfl rfl rfl (by kernel_rfl)
            have c := (hI.st.bl.cell LD.out).trans D0.out
            exact J_load rfl _ (.tmp 36) rfl (by rw [f3]; go_simp) (hI.u0 hK rfl)
           refine .cons (fun V Ld a W hLi hpre hR hI KK hK => ?_) ?_
           ·
            refine G_gw hI hR hpre 2 rfl rfl rfl rfl (by kernel_rfl) ?_
            have o5 := (hR.old 5 (by kernel_rfl)).trans (show _ = Value.int .i64 ((f : Int)) from rfl)
            exact G_move rfl (.tmp 5) rfl o5 (hI.u0 hK rfl)
           refine .cons (fun V Ld a W hLi hpre hR hI KK hK => ?_) ?_
           ·
            refine G_gw hI hR hpre 2 rfl rfl rfl rfl (by kernel_rfl) ?_
            have f4 := hI.ef hR hpre 4 rfl rfl rfl (by kernel_rfl)
            have f5 := hI.ef hR hpre 5 rfl rfl rfl (by kernel_rfl)
            exact J_indexAddr rfl _ (.tmp 37) (.tmp 38) rfl (by rw [f4, f5]; go_simp) (hI.u0 hK rfl)
           refine .cons (fun V Ld a W hLi hpre hR hI KK hK => ?_) ?_
           ·
            refine G_gw hI hR hpre 2 rfl rfl rfl rfl (by kernel_rfl) ?_
            have f6 := hI.ef hR hpre 6 rfl rfl rfl (by kernel_rfl)
            exact J_fieldAddr rfl _ (.tmp 39) 1 rfl (by rw [f6]; go_simp) (hI.u0 hK rfl)
           refine .cons (fun V Ld a W hLi hpre hR hI KK hK => ?_) ?_
           ·
            refine G_gw hI hR hpre 2 rfl rfl rfl rfl (by kernel_rfl) ?_
            have f7 := hI.ef hR hpre 7 rfl rfl rfl (by kernel_rfl)
            have c := (hI.st.bl.cell LB.out).trans X1.out
            exact J_load rfl _ (.tmp 40) rfl (by rw [f7]; go_simp) (hI.u0 hK rfl)
           refine .cons (fun V Ld a W hLi hpre hR hI KK hK => ?_) ?_
           ·
            refine G_gw hI hR hpre 2 rfl rfl rfl rfl (by kernel_rfl) ?_
            have o4 := (hR.old 4 (by kernel_rfl)).trans (show _ = Value.pointer (some ⟨wr.heap.size, 0, none⟩) from rfl)
            exact J_fieldAddr rfl _ (.tmp 4) 2 rfl (by rw [o4]; go_simp) (hI.u0 hK rfl)
           refine .cons (fun V Ld a W hLi hpre hR hI KK hK => ?_) ?_
           ·
            refine G_gw hI hR hpre 2 rfl rfl rfl rfl (by kernel_rfl) ?_
            have f9 := hI.ef hR hpre 9 rfl rfl rfl (by kernel_rfl)
            have c := (hI.st.bl.cell LV.out).trans VC.out.c2
            exact J_load rfl _ (.tmp 42) rfl (by rw [f9]; go_simp) (hI.u0 hK rfl)
           refine .cons (fun V Ld a W hLi hpre hR hI KK hK => ?_) ?_
           ·
            refine G_gw hI hR hpre 2 rfl rfl rfl rfl (by kernel_rfl) ?_
            have f8 := hI.ef hR hpre 8 rfl rfl rfl (by kernel_rfl)
            have f10 := hI.ef hR hpre 10 rfl rfl rfl (by kernel_rfl)
            exact J_binOp rfl .neq _ (.tmp 41) (.tmp 43) _ rfl (by rw [f8, f10]; exact bf_neS _ _ _ _ W J2.out) (hI.u0 hK rfl)
           refine .cons (fun V Ld a W hLi hpre hR hI KK hK => ?_) ?_
           ·
            have f2 := hI.ef hR hpre 2 rfl rfl rfl (by kernel_rfl)
            have f11 := hI.ef hR hpre 11 rfl rfl rfl (by kernel_rfl)
            exact G_pick rfl (.tmp 35) (.const (.bool true)) (.tmp 44) rfl f2 (show _ = _ from f11) (hI.u0 hK rfl)
           refine .mf 12 rfl rfl rfl rfl rfl (by kernel_rfl) rfl ?_
           refine .cons (fun V Ld a W hLi hpre hR hI KK hK => ?_) ?_
           ·
            refine G_gw hI hR hpre 13 rfl rfl rfl rfl (by kernel_rfl) ?_
            have o4 := (hR.old 4 (by kernel_rfl)).trans (show _ = Value.pointer (some ⟨wr.heap.size, 0, none⟩) from rfl)
            exact J_fieldAddr rfl _ (.tmp 4) 1 rfl (by rw [o4]; go_simp) (hI.u0 hK rfl)
           refine .cons (fun V Ld a W hLi hpre hR hI KK hK => ?_) ?_
           ·
            refine G_gw hI hR hpre 13 rfl rfl rfl rfl (by kernel_rfl) ?_
            have f14 := hI.ef hR hpre 14 rfl rfl rfl (by kernel_rfl)
            have c := (hI.st.bl.cell LV.out).trans VC.out.c1
            exact J_load rfl _ (.tmp 47) rfl (by rw [f14]; go_simp) (hI.u0 hK rfl)
           refine .cons (fun V Ld a W hLi hpre hR hI KK hK => ?_) ?_
           ·
            refine G_gw hI hR hpre 13 rfl rfl rfl rfl (by kernel_rfl) ?_
            have f15 := hI.ef hR hpre 15 rfl rfl rfl (by kernel_rfl)
            exact G_len rfl (.tmp 48) _ rfl (by rw [f15]; go_simp) (hI.u0 hK rfl)
           refine .cons (fun V Ld a W hLi hpre hR hI KK hK => ?_) ?_
           ·
            refine G_gw hI hR hpre 13 rfl rfl rfl rfl (by kernel_rfl) ?_
            have f16 := hI.ef hR hpre 16 rfl rfl rfl (by kernel_rfl)
            exact J_binOp rfl .gtr _ (.tmp 49) (.const (.int .i64 256)) _ rfl (by rw [f16]; exact bf_gtr _ _ _ _ W J3.out) (hI.u0 hK rfl)
           refine .cons (fun V Ld a W hLi hpre hR hI KK hK => ?_) ?_
           ·
            have f13 := hI.ef hR hpre 13 rfl rfl rfl (by kernel_rfl)
            have f17 := hI.ef hR hpre 17 rfl rfl rfl (by kernel_rfl)
            exact G_pick rfl (.tmp 46) (.const (.bool true)) (.tmp 50) rfl f13 (show _ = _ from f17) (hI.u0 hK rfl)
           refine .mf 18 rfl rfl rfl rfl rfl (by kernel_rfl) rfl ?_
           refine .cons (fun V Ld a W hLi hpre hR hI KK hK => ?_) ?_
           ·
            refine G_gw hI hR hpre 19 rfl rfl rfl rfl (by kernel_rfl) ?_
            have o4 := (hR.old 4 (by kernel_rfl)).trans (show _ = Value.pointer (some ⟨wr.heap.size, 0, none⟩) from rfl)
            exact J_fieldAddr rfl _ (.tmp 4) 3 rfl (by rw [o4]; go_simp) (hI.u0 hK rfl)
           refine .cons (fun V Ld a W hLi hpre hR hI KK hK => ?_) ?_
           ·
            refine G_gw hI hR hpre 19 rfl rfl rfl rfl (by kernel_rfl) ?_
            have f20 := hI.ef hR hpre 20 rfl rfl rfl (by kernel_rfl)
            have c := (hI.st.bl.cell LV.out).trans VC.out.c3
            exact J_load rfl _ (.tmp 53) rfl (by rw [f20]; go_simp) (hI.u0 hK rfl)
           refine .cons (fun V Ld a W hLi hpre hR hI KK hK => ?_) ?_
           ·
            refine G_gw hI hR hpre 19 rfl rfl rfl rfl (by kernel_rfl) ?_
            have f21 := hI.ef hR hpre 21 rfl rfl rfl (by kernel_rfl)
            exact J_binOp rfl .lss _ (.tmp 54) (.const (.int .i64 0)) _ rfl (by rw [f21]; exact bf_lss _ _ _ _ W J4a.out) (hI.u0 hK rfl)
           refine .cons (fun V Ld a W hLi hpre hR hI KK hK => ?_) ?_
           ·
            have f19 := hI.ef hR hpre 19 rfl rfl rfl (by kernel_rfl)
            have f22 := hI.ef hR hpre 22 rfl rfl rfl (by kernel_rfl)
            exact G_pick rfl (.tmp 52) (.const (.bool true)) (.tmp 55) rfl f19 (show _ = _ from f22) (hI.u0 hK rfl)
           refine .mf 23 rfl rfl rfl rfl rfl (by kernel_rfl) rfl ?_
           refine .cons (fun V Ld a W hLi hpre hR hI KK hK => ?_) ?_
           ·
            refine G_gw hI hR hpre 24 rfl rfl rfl rfl (by kernel_rfl) ?_
            have o4 := (hR.old 4 (by kernel_rfl)).trans (show _ = Value.pointer (some ⟨wr.heap.size, 0, none⟩) from rfl)
            exact J_fieldAddr rfl _ (.tmp 4) 3 rfl (by rw [o4]; go_simp) (hI.u0 hK rfl)
           refine .cons (fun V Ld a W hLi hpre hR hI KK hK => ?_) ?_
           ·
            refine G_gw hI hR hpre 24 rfl rfl rfl rfl (by kernel_rfl) ?_
            have f25 := hI.ef hR hpre 25 rfl rfl rfl (by kernel_rfl)
            have c := (hI.st.bl.cell LV.out).trans VC.out.c3
            exact J_load rfl _ (.tmp 58) rfl (by rw [f25]; go_simp) (hI.u0 hK rfl)
           refine .cons (fun V Ld a W hLi hpre hR hI KK hK => ?_) ?_
           ·
            refine G_gw hI hR hpre 24 rfl rfl rfl rfl (by kernel_rfl) ?_
            have f26 := hI.ef hR hpre 26 rfl rfl rfl (by kernel_rfl)
            exact J_binOp rfl .gtr _ (.tmp 59) (.const (.int .i64 1099511627776)) _ rfl (by rw [f26]; exact bt_gtr _ _ _ _ W J4.out) (hI.u0 hK rfl)
           refine .cons (fun V Ld a W hLi hpre hR hI KK hK => ?_) ?_
           ·
            have f24 := hI.ef hR hpre 24 rfl rfl rfl (by kernel_rfl)
            have f27 := hI.ef hR hpre 27 rfl rfl rfl (by kernel_rfl)
            exact G_pick rfl (.tmp 57) (.const (.bool true)) (.tmp 60) rfl f24 (show _ = _ from f27) (hI.u0 hK rfl)
           refine .mf 28 rfl rfl rfl rfl rfl (by kernel_rfl) rfl ?_
           refine .un 29 rfl rfl rfl rfl (by kernel_rfl) rfl ?_
           refine .un 29 rfl rfl rfl rfl (by kernel_rfl) rfl ?_
           refine .un 29 rfl rfl rfl rfl (by kernel_rfl) rfl ?_
           refine .unU 32 rfl rfl rfl rfl (by kernel_rfl) rfl ?_
           refine .unU 32 rfl rfl rfl rfl (by kernel_rfl) rfl ?_
           refine .unU 32 rfl rfl rfl rfl (by kernel_rfl) rfl ?_
           refine .unU 32 rfl rfl rfl rfl (by kernel_rfl) rfl ?_
           refine .unU 32 rfl rfl rfl rfl (by kernel_rfl) rfl ?_
           refine .unU 32 rfl rfl rfl rfl (by kernel_rfl) rfl ?_
           refine .unU 32 rfl rfl rfl rfl (by kernel_rfl) rfl ?_
           refine .unU 32 rfl rfl rfl rfl (by kernel_rfl) rfl ?_
           refine .unU 32 rfl rfl rfl rfl (by kernel_rfl) rfl ?_
           refine .unU 32 rfl rfl rfl rfl (by kernel_rfl) rfl ?_
           refine .un 29 rfl rfl rfl rfl (by kernel_rfl) rfl ?_
           refine .cons (fun V Ld a W hLi hpre hR hI KK hK => ?_) trivial
           ·
            have f29 := hI.ef hR hpre 29 rfl rfl rfl (by kernel_rfl)
            exact G_pick rfl (.tmp 62) (.const (.bool true)) (.tmp 76) rfl f29 (show _ = _ from rfl) (hI.u0 hK rfl)
          case refine_3 =>
           intro V Ld w9 hLd hI
           have e9 : V 44 = .bool true := hI.val 44 _ rfl (hLd 44 (by decide))
           have hb9 := hI.st.bl
           clear hI hLd
           simp only [finL, putL, Act.put, Nat.reduceAdd]
           rw [e9]
           clear e9
           generalize V 0 = v0, V 1 = v1
           generalize V 2 = v2, V 3 = v3
           generalize V 4 = v4, V 5 = v5
           generalize V 6 = v6, V 7 = v7
           generalize V 8 = v8, V 9 = v9
           generalize V 10 = v10, V 11 = v11
           generalize V 12 = v12, V 13 = v13
           generalize V 14 = v14, V 15 = v15
           generalize V 16 = v16, V 17 = v17
           generalize V 18 = v18, V 19 = v19
           generalize V 20 = v20, V 21 = v21
           generalize V 22 = v22, V 23 = v23
           generalize V 24 = v24, V 25 = v25
           generalize V 26 = v26, V 27 = v27
           generalize V 28 = v28, V 29 = v29
           generalize V 30 = v30, V 31 = v31
           generalize V 32 = v32, V 33 = v33
           generalize V 34 = v34, V 35 = v35
           generalize V 36 = v36, V 37 = v37
           generalize V 38 = v38, V 39 = v39
           generalize V 40 = v40, V 41 = v41
           generalize V 42 = v42, V 43 = v43
           clear V
           simp only [List.setIfInBounds_toArray, List.set_cons_succ, List.set_cons_zero]
           go_wp2_with fail
           go_ret
           exact RetB.int HV.out (HBW.out.trans ((HW0.out.trans (hb9.mono HW0.out.size)).mono HBW.out.size))
        | true =>
         have Q4 := Lib.hid q4
         clear q4
         rcases Nat.eq_zero_or_pos k with hz | hz
         ·
          have HZ := Lib.hid hz
          have Z1 := Lib.hid (show (k : Int) ≤ 0 by omega)
          clear hz
          have HN := Lib.hid (show casK ⟨C, K⟩ (k + 1) = true from by unfold casK; rw [HK.out, cas_y HF.out Q2.out Q3.out Q4.out (prevK_0 HZ.out)]; rfl)
          have J2 := Lib.hid (show (x.o.toList == (kAt K k).o.toList) = true from by rw [hx.o]; exact Q2.out)
          have J3 := Lib.hid (show ((kAt K k).r.size : Int) ≤ 256 from by have h := of_decide_eq_false Q3.out; omega)
          have J4a := Lib.hid (show (0 : Int) ≤ (kAt K k).t from (inI_of Q4.out).1)
          have J4b := Lib.hid (show (kAt K k).t ≤ (1099511627776 : Int) from (inI_of Q4.out).2)
          clear hx
          go_wp2_with fail
          refine wp_region_J2 (GI (R := Bl) [Pr.eq (.int .i64 ((f : Int))), Pr.eq (.bool false), Pr.eq (.bool false), Pr.eq (.pointer (some ⟨w.heap.size, 0, none⟩)), Pr.eq (.slice (some ⟨b, off, none⟩) C.length ca), Pr.eq (.int .i64 ((f : Int))), Pr.eq (.pointer (some ⟨b, off + f * 3, none⟩)), Pr.eq (.pointer (some ⟨b, off + f * 3 + 1, none⟩)), Pr.eq (.string (x.o)), Pr.eq (.pointer (some ⟨wr.heap.size, 2, none⟩)), Pr.eq (.string ((kAt K k).o)), Pr.eq (.bool false), Pr.eq (.bool false), Pr.eq (.bool false), Pr.eq (.pointer (some ⟨wr.heap.size, 1, none⟩)), Pr.eq (.string ((kAt K k).r)), Pr.eq (.int .i64 (((kAt K k).r.size : Int))), Pr.eq (.bool false), Pr.eq (.bool false), Pr.eq (.bool false), Pr.eq (.pointer (some ⟨wr.heap.size, 3, none⟩)), Pr.eq (.int .i64 ((kAt K k).t)), Pr.eq (.bool false), Pr.eq (.bool false), Pr.eq (.bool false), Pr.eq (.pointer (some ⟨wr.heap.size, 3, none⟩)), Pr.eq (.int .i64 ((kAt K k).t)), Pr.eq (.bool false), Pr.eq (.bool false), Pr.eq (.bool false), Pr.eq (.int .i64 ((k : Int))), Pr.eq (.bool false), Pr.eq (.bool false), Pr.eq undef, Pr.eq undef, Pr.eq undef, Pr.eq undef, Pr.eq undef, Pr.eq undef, Pr.eq undef, Pr.eq undef, Pr.eq undef, Pr.eq undef, Pr.eq (.bool false), Pr.eq (.bool false)] (GrS w0)) (by kernel_rfl) (by kernel_rfl) (by kernel_rfl) ?_ ?_ ?_
          case refine_1 => exact fun V => GI.start (GrS.start _ _ _)
          case refine_2 =>
           refine .cons (fun V Ld a W hLi hpre hR hI KK hK => ?_) ?_
           ·
            have o5 := (hR.old 5 (by kernel_rfl)).trans (show _ = Value.int .i64 ((f : Int)) from rfl)
            exact G_move rfl (.tmp 5) rfl o5 (hI.u0 hK rfl)
           refine .cons (fun V Ld a W hLi hpre hR hI KK hK => ?_) ?_
           ·
            have f0 := hI.ef hR hpre 0 rfl rfl rfl (by kernel_rfl)
            exact J_binOp rfl .lss _ (.tmp 33) (.const (.int .i64 0)) _ rfl (by rw [f0]; exact bf_lss _ _ _ _ W (by omega)) (hI.u0 hK rfl)
           refine .mf 1 rfl rfl rfl rfl rfl (by kernel_rfl) rfl ?_
           refine .cons (fun V Ld a W hLi hpre hR hI KK hK => ?_) ?_
           ·
            refine G_gw hI hR hpre 2 rfl rfl rfl rfl (by kernel_rfl) ?_
            have o1 := (hR.old 1 (by kernel_rfl)).trans (show _ = Value.pointer (some ⟨w.heap.size, 0, none⟩) from rfl)
            exact J_fieldAddr rfl _ (.tmp 1) 0 rfl (by rw [o1]; go_simp) (hI.u0 hK rfl)
           refine .cons (fun V Ld a W hLi hpre hR hI KK hK => ?_) ?_
           ·
            refine G_gw hI hR hpre 2 rfl rfl rfl rfl (by kernel_rfl) ?_
            have f3 := hI.ef hR hpre 3 rfl rfl rfl (by kernel_rfl)
            have c := (hI.st.bl.cell LD.out).trans D0.out
            exact J_load rfl _ (.tmp 36) rfl (by rw [f3]; go_simp) (hI.u0 hK rfl)
           refine .cons (fun V Ld a W hLi hpre hR hI KK hK => ?_) ?_
           ·
            refine G_gw hI hR hpre 2 rfl rfl rfl rfl (by kernel_rfl) ?_
            have o5 := (hR.old 5 (by kernel_rfl)).trans (show _ = Value.int .i64 ((f : Int)) from rfl)
            exact G_move rfl (.tmp 5) rfl o5 (hI.u0 hK rfl)
           refine .cons (fun V Ld a W hLi hpre hR hI KK hK => ?_) ?_
           ·
            refine G_gw hI hR hpre 2 rfl rfl rfl rfl (by kernel_rfl) ?_
            have f4 := hI.ef hR hpre 4 rfl rfl rfl (by kernel_rfl)
            have f5 := hI.ef hR hpre 5 rfl rfl rfl (by kernel_rfl)
            exact J_indexAddr rfl _ (.tmp 37) (.tmp 38) rfl (by rw [f4, f5]; go_simp) (hI.u0 hK rfl)
           refine .cons (fun V Ld a W hLi hpre hR hI KK hK => ?_) ?_
           ·
            refine G_gw hI hR hpre 2 rfl rfl rfl rfl (by kernel_rfl) ?_
            have f6 := hI.ef hR hpre 6 rfl rfl rfl (by kernel_rfl)
            exact J_fieldAddr rfl _ (.tmp 39) 1 rfl (by rw [f6]; go_simp) (hI.u0 hK rfl)
           refine .cons (fun V Ld a W hLi hpre hR hI KK hK => ?_) ?_
           ·
            refine G_gw hI hR hpre 2 rfl rfl rfl rfl (by kernel_rfl) ?_
            have f7 := hI.ef hR hpre 7 rfl rfl rfl (by kernel_rfl)
            have c := (hI.st.bl.cell LB.out).trans X1.out
            exact J_load rfl _ (.tmp 40) rfl (by rw [f7]; go_simp) (hI.u0 hK rfl)
           refine .cons (fun V Ld a W hLi hpre hR hI KK hK => ?_) ?_
           ·
            refine G_gw hI hR hpre 2 rfl rfl rfl rfl (by kernel_rfl) ?_
            have o4 := (hR.old 4 (by kernel_rfl)).trans (show _ = Value.pointer (some ⟨wr.heap.size, 0, none⟩) from rfl)
            exact J_fieldAddr rfl _ (.tmp 4) 2 rfl (by rw [o4]; go_simp) (hI.u0 hK rfl)
           refine .cons (fun V Ld a W hLi hpre hR hI KK hK => ?_) ?_
           ·
            refine G_gw hI hR hpre 2 rfl rfl rfl rfl (by kernel_rfl) ?_
            have f9 := hI.ef hR hpre 9 rfl rfl rfl (by kernel_rfl)
            have c := (hI.st.bl.cell LV.out).trans VC.out.c2
            exact J_load rfl _ (.tmp 42) rfl (by rw [f9]; go_simp) (hI.u0 hK rfl)
           refine .cons (fun V Ld a W hLi hpre hR hI KK hK => ?_) ?_
           ·
            refine G_gw hI hR hpre 2 rfl rfl rfl rfl (by kernel_rfl) ?_
            have f8 := hI.ef hR hpre 8 rfl rfl rfl (by kernel_rfl)
            have f10 := hI.ef hR hpre 10 rfl rfl rfl (by kernel_rfl)
            exact J_binOp rfl .neq _ (.tmp 41) (.tmp 43) _ rfl (by rw [f8, f10]; exact bf_neS _ _ _ _ W J2.out) (hI.u0 hK rfl)
           refine .cons (fun V Ld a W hLi hpre hR hI KK hK => ?_) ?_
           ·
            have f2 := hI.ef hR hpre 2 rfl rfl rfl (by kernel_rfl)
            have f11 := hI.ef hR hpre 11 rfl rfl rfl (by kernel_rfl)
            exact G_pick rfl (.tmp 35) (.const (.bool true)) (.tmp 44) rfl f2 (show _ = _ from f11) (hI.u0 hK rfl)
           refine .mf 12 rfl rfl rfl rfl rfl (by kernel_rfl) rfl ?_
           refine .cons (fun V Ld a W hLi hpre hR hI KK hK => ?_) ?_
           ·
            refine G_gw hI hR hpre 13 rfl rfl rfl rfl (by kernel_rfl) ?_
            have o4 := (hR.old 4 (by kernel_rfl)).trans (show _ = Value.pointer (some ⟨wr.heap.size, 0, none⟩) from rfl)
            exact J_fieldAddr rfl _ (.tmp 4) 1 rfl (by rw [o4]; go_simp) (hI.u0 hK rfl)
           refine .cons (fun V Ld a W hLi hpre hR hI KK hK => ?_) ?_
           ·
            refine G_gw hI hR hpre 13 rfl rfl rfl rfl (by kernel_rfl) ?_
            have f14 := hI.ef hR hpre 14 rfl rfl rfl (by kernel_rfl)
            have c := (hI.st.bl.cell LV.out).trans VC.out.c1
            exact J_load rfl _ (.tmp 47) rfl (by rw [f14]; go_simp) (hI.u0 hK rfl)
           refine .cons (fun V Ld a W hLi hpre hR hI KK hK => ?_) ?_
           ·
            refine G_gw hI hR hpre 13 rfl rfl rfl rfl (by kernel_rfl) ?_
            have f15 := hI.ef hR hpre 15 rfl rfl rfl (by kernel_rfl)
            exact G_len rfl (.tmp 48) _ rfl (by rw [f15]; go_simp) (hI.u0 hK rfl)
           refine .cons (fun V Ld a W hLi hpre hR hI KK hK => ?_) ?_
           ·
            refine G_gw hI hR hpre 13 rfl rfl rfl rfl (by kernel_rfl) ?_
            have f16 := hI.ef hR hpre 16 rfl rfl rfl (by kernel_rfl)
            exact J_binOp rfl .gtr _ (.tmp 49) (.const (.int .i64 256)) _ rfl (by rw [f16]; exact bf_gtr _ _ _ _ W J3.out) (hI.u0 hK rfl)
           refine .cons (fun V Ld a W hLi hpre hR hI KK hK => ?_) ?_
           ·
            have f13 := hI.ef hR hpre 13 rfl rfl rfl (by kernel_rfl)
            have f17 := hI.ef hR hpre 17 rfl rfl rfl (by kernel_rfl)
            exact G_pick rfl (.tmp 46) (.const (.bool true)) (.tmp 50) rfl f13 (show _ = _ from f17) (hI.u0 hK rfl)
           refine .mf 18 rfl rfl rfl rfl rfl (by kernel_rfl) rfl ?_
           refine .cons (fun V Ld a W hLi hpre hR hI KK hK => ?_) ?_
           ·
            refine G_gw hI hR hpre 19 rfl rfl rfl rfl (by kernel_rfl) ?_
            have o4 := (hR.old 4 (by kernel_rfl)).trans (show _ = Value.pointer (some ⟨wr.heap.size, 0, none⟩) from rfl)
            exact J_fieldAddr rfl _ (.tmp 4) 3 rfl (by rw [o4]; go_simp) (hI.u0 hK rfl)
           refine .cons (fun V Ld a W hLi hpre hR hI KK hK => ?_) ?_
           ·
            refine G_gw hI hR hpre 19 rfl rfl rfl rfl (by kernel_rfl) ?_
            have f20 := hI.ef hR hpre 20 rfl rfl rfl (by kernel_rfl)
            have c := (hI.st.bl.cell LV.out).trans VC.out.c3
            exact J_load rfl _ (.tmp 53) rfl (by rw [f20]; go_simp) (hI.u0 hK rfl)
           refine .cons (fun V Ld a W hLi hpre hR hI KK hK => ?_) ?_
           ·
            refine G_gw hI hR hpre 19 rfl rfl rfl rfl (by kernel_rfl) ?_
            have f21 := hI.ef hR hpre 21 rfl rfl rfl (by kernel_rfl)
            exact J_binOp rfl .lss _ (.tmp 54) (.const (.int .i64 0)) _ rfl (by rw [f21]; exact bf_lss _ _ _ _ W J4a.out) (hI.u0 hK rfl)
           refine .cons (fun V Ld a W hLi hpre hR hI KK hK => ?_) ?_
           ·
            have f19 := hI.ef hR hpre 19 rfl rfl rfl (by kernel_rfl)
            have f22 := hI.ef hR hpre 22 rfl rfl rfl (by kernel_rfl)
            exact G_pick rfl (.tmp 52) (.const (.bool true)) (.tmp 55) rfl f19 (show _ = _ from f22) (hI.u0 hK rfl)
           refine .mf 23 rfl rfl rfl rfl rfl (by kernel_rfl) rfl ?_
           refine .cons (fun V Ld a W hLi hpre hR hI KK hK => ?_) ?_
           ·
            refine G_gw hI hR hpre 24 rfl rfl rfl rfl (by kernel_rfl) ?_
            have o4 := (hR.old 4 (by kernel_rfl)).trans (show _ = Value.pointer (some ⟨wr.heap.size, 0, none⟩) from rfl)
            exact J_fieldAddr rfl _ (.tmp 4) 3 rfl (by rw [o4]; go_simp) (hI.u0 hK rfl)
           refine .cons (fun V Ld a W hLi hpre hR hI KK hK => ?_) ?_
           ·
            refine G_gw hI hR hpre 24 rfl rfl rfl rfl (by kernel_rfl) ?_
            have f25 := hI.ef hR hpre 25 rfl rfl rfl (by kernel_rfl)
            have c := (hI.st.bl.cell LV.out).trans VC.out.c3
            exact J_load rfl _ (.tmp 58) rfl (by rw [f25]; go_simp) (hI.u0 hK rfl)
           refine .cons (fun V Ld a W hLi hpre hR hI KK hK => ?_) ?_
           ·
            refine G_gw hI hR hpre 24 rfl rfl rfl rfl (by kernel_rfl) ?_
            have f26 := hI.ef hR hpre 26 rfl rfl rfl (by kernel_rfl)
            exact J_binOp rfl .gtr _ (.tmp 59) (.const (.int .i64 1099511627776)) _ rfl (by rw [f26]; exact bf_gtr _ _ _ _ W J4b.out) (hI.u0 hK rfl)
           refine .cons (fun V Ld a W hLi hpre hR hI KK hK => ?_) ?_
           ·
            have f24 := hI.ef hR hpre 24 rfl rfl rfl (by kernel_rfl)
            have f27 := hI.ef hR hpre 27 rfl rfl rfl (by kernel_rfl)
            exact G_pick rfl (.tmp 57) (.const (.bool true)) (.tmp 60) rfl f24 (show _ = _ from f27) (hI.u0 hK rfl)
           refine .mf 28 rfl rfl rfl rfl rfl (by kernel_rfl) rfl ?_
           refine .cons (fun V Ld a W hLi hpre hR hI KK hK => ?_) ?_
           ·
            refine G_gw hI hR hpre 29 rfl rfl rfl rfl (by kernel_rfl) ?_
            have o3 := (hR.old 3 (by kernel_rfl)).trans (show _ = Value.int .i64 ((k : Int)) from rfl)
            exact G_move rfl (.tmp 3) rfl o3 (hI.u0 hK rfl)
           refine .cons (fun V Ld a W hLi hpre hR hI KK hK => ?_) ?_
           ·
            refine G_gw hI hR hpre 29 rfl rfl rfl rfl (by kernel_rfl) ?_
            have f30 := hI.ef hR hpre 30 rfl rfl rfl (by kernel_rfl)
            exact J_binOp rfl .gtr _ (.tmp 63) (.const (.int .i64 0)) _ rfl (by rw [f30]; exact bf_gtr _ _ _ _ W Z1.out) (hI.u0 hK rfl)
           refine .cons (fun V Ld a W hLi hpre hR hI KK hK => ?_) ?_
           ·
            refine G_gw hI hR hpre 29 rfl rfl rfl rfl (by kernel_rfl) ?_
            have f31 := hI.ef hR hpre 31 rfl rfl rfl (by kernel_rfl)
            exact G_move rfl (.tmp 64) rfl f31 (hI.u0 hK rfl)
           refine .un 32 rfl rfl rfl rfl (by kernel_rfl) rfl ?_
           refine .un 32 rfl rfl rfl rfl (by kernel_rfl) rfl ?_
           refine .un 32 rfl rfl rfl rfl (by kernel_rfl) rfl ?_
           refine .un 32 rfl rfl rfl rfl (by kernel_rfl) rfl ?_
           refine .un 32 rfl rfl rfl rfl (by kernel_rfl) rfl ?_
           refine .un 32 rfl rfl rfl rfl (by kernel_rfl) rfl ?_
           refine .un 32 rfl rfl rfl rfl (by kernel_rfl) rfl ?_
           refine .un 32 rfl rfl rfl rfl (by kernel_rfl) rfl ?_
           refine .un 32 rfl rfl rfl rfl (by kernel_rfl) rfl ?_
           refine .un 32 rfl rfl rfl rfl (by kernel_rfl) rfl ?_
           refine .cons (fun V Ld a W hLi hpre hR hI KK hK => ?_) ?_
           ·
            refine G_gw hI hR hpre 29 rfl rfl rfl rfl (by kernel_rfl) ?_
            have f32 := hI.ef hR hpre 32 rfl rfl rfl (by kernel_rfl)
            exact G_pick rfl (.tmp 65) (.tmp 75) (.const (.bool false)) rfl f32 (show _ = _ from rfl) (hI.u0 hK rfl)
           refine .cons (fun V Ld a W hLi hpre hR hI KK hK => ?_) trivial
           ·
            have f29 := hI.ef hR hpre 29 rfl rfl rfl (by kernel_rfl)
            have f43 := hI.ef hR hpre 43 rfl rfl rfl (by kernel_rfl)
            exact G_pick rfl (.tmp 62) (.const (.bool true)) (.tmp 76) rfl f29 (show _ = _ from f43) (hI.u0 hK rfl)
          case refine_3 =>
           intro V Ld w9 hLd hI
           have e9 : V 44 = .bool false := hI.val 44 _ rfl (hLd 44 (by decide))
           have hb9 := hI.st.bl
           clear hI hLd
           simp only [finL, putL, Act.put, Nat.reduceAdd]
           rw [e9]
           clear e9
           generalize V 0 = v0, V 1 = v1
           generalize V 2 = v2, V 3 = v3
           generalize V 4 = v4, V 5 = v5
           generalize V 6 = v6, V 7 = v7
           generalize V 8 = v8, V 9 = v9
           generalize V 10 = v10, V 11 = v11
           generalize V 12 = v12, V 13 = v13
           generalize V 14 = v14, V 15 = v15
           generalize V 16 = v16, V 17 = v17
           generalize V 18 = v18, V 19 = v19
           generalize V 20 = v20, V 21 = v21
           generalize V 22 = v22, V 23 = v23
           generalize V 24 = v24, V 25 = v25
           generalize V 26 = v26, V 27 = v27
           generalize V 28 = v28, V 29 = v29
           generalize V 30 = v30, V 31 = v31
           generalize V 32 = v32, V 33 = v33
           generalize V 34 = v34, V 35 = v35
           generalize V 36 = v36, V 37 = v37
           generalize V 38 = v38, V 39 = v39
           generalize V 40 = v40, V 41 = v41
           generalize V 42 = v42, V 43 = v43
           clear V
           simp only [List.setIfInBounds_toArray, List.set_cons_succ, List.set_cons_zero]
           go_wp2_with fail
           go_roundw
           case rel => exact ⟨k + 1, by omega, by go_num, HN.out, below_trans HBR.out (below_trans HW0.out hb9)⟩
           case measure => simp [intOf]; omega
         ·
          have Z1 := Lib.hid (show (0 : Int) < (k : Int) by omega)
          obtain ⟨m, hm⟩ : ∃ m, k = m + 1 := ⟨k - 1, by omega⟩
          have hmC : m < K.length := by omega
          have hm2 : (0 : Int) ≤ (m : Int) := by omega
          have hm3 : (m : Int) < (K.length : Int) := by omega
          have HM := Lib.hid hm
          clear hm hz
          obtain ⟨kb', ko', e', hkl, -, -, -, -, y3, -⟩ := (HKS.out.below (below_trans HBW.out HW0.out)).case hmC
          obtain ⟨rfl, rfl⟩ : kb = kb' ∧ ko = ko' := by injection e' with e'; injection e' with e1 e2; exact ⟨e1, e2⟩
          have Y3 := Lib.hid y3
          have LK := Lib.hid hkl
          clear e' y3 hkl
          by_cases q5 : (kAt K m).t ≤ (kAt K k).t
          ·
           skip
           have Q5 := Lib.hid q5
           clear q5
           have HN := Lib.hid (show casK ⟨C, K⟩ (k + 1) = true from by unfold casK; rw [HK.out, cas_y HF.out Q2.out Q3.out Q4.out (prevK_y HM.out Q5.out)]; rfl)
           have J2 := Lib.hid (show (x.o.toList == (kAt K k).o.toList) = true from by rw [hx.o]; exact Q2.out)
           have J3 := Lib.hid (show ((kAt K k).r.size : Int) ≤ 256 from by have h := of_decide_eq_false Q3.out; omega)
           have J4a := Lib.hid (show (0 : Int) ≤ (kAt K k).t from (inI_of Q4.out).1)
           have J4b := Lib.hid (show (kAt K k).t ≤ (1099511627776 : Int) from (inI_of Q4.out).2)
           have J5 := Lib.hid (show (kAt K m).t ≤ (kAt K k).t from Q5.out)
           clear hx
           go_wp2_with fail
           refine wp_region_J2 (GI (R := Bl) [Pr.eq (.int .i64 ((f : Int))), Pr.eq (.bool false), Pr.eq (.bool false), Pr.eq (.pointer (some ⟨w.heap.size, 0, none⟩)), Pr.eq (.slice (some ⟨b, off, none⟩) C.length ca), Pr.eq (.int .i64 ((f : Int))), Pr.eq (.pointer (some ⟨b, off + f * 3, none⟩)), Pr.eq (.pointer (some ⟨b, off + f * 3 + 1, none⟩)), Pr.eq (.string (x.o)), Pr.eq (.pointer (some ⟨wr.heap.size, 2, none⟩)), Pr.eq (.string ((kAt K k).o)), Pr.eq (.bool false), Pr.eq (.bool false), Pr.eq (.bool false), Pr.eq (.pointer (some ⟨wr.heap.size, 1, none⟩)), Pr.eq (.string ((kAt K k).r)), Pr.eq (.int .i64 (((kAt K k).r.size : Int))), Pr.eq (.bool false), Pr.eq (.bool false), Pr.eq (.bool false), Pr.eq (.pointer (some ⟨wr.heap.size, 3, none⟩)), Pr.eq (.int .i64 ((kAt K k).t)), Pr.eq (.bool false), Pr.eq (.bool false), Pr.eq (.bool false), Pr.eq (.pointer (some ⟨wr.heap.size, 3, none⟩)), Pr.eq (.int .i64 ((kAt K k).t)), Pr.eq (.bool false), Pr.eq (.bool false), Pr.eq (.bool false), Pr.eq (.int .i64 ((k : Int))), Pr.eq (.bool true), Pr.eq (.bool true), Pr.eq (.pointer (some ⟨wr.heap.size, 3, none⟩)), Pr.eq (.int .i64 ((kAt K k).t)), Pr.eq (.pointer (some ⟨w.heap.size, 1, none⟩)), Pr.eq (.slice (some ⟨kb, ko, none⟩) K.length cb), Pr.eq (.int .i64 ((k : Int))), Pr.eq (.int .i64 ((m : Int))), Pr.eq (.pointer (some ⟨kb, ko + m * 5, none⟩)), Pr.eq (.pointer (some ⟨kb, ko + m * 5 + 3, none⟩)), Pr.eq (.int .i64 ((kAt K m).t)), Pr.eq (.bool false), Pr.eq (.bool false), Pr.eq (.bool false)] (GrS w0)) (by kernel_rfl) (by kernel_rfl) (by kernel_rfl) ?_ ?_ ?_
           case refine_1 => exact fun V => GI.start (GrS.start _ _ _)
           case refine_2 =>
            refine .cons (fun V Ld a W hLi hpre hR hI KK hK => ?_) ?_
            ·
             have o5 := (hR.old 5 (by kernel_rfl)).trans (show _ = Value.int .i64 ((f : Int)) from rfl)
             exact G_move rfl (.tmp 5) rfl o5 (hI.u0 hK rfl)
            refine .cons (fun V Ld a W hLi hpre hR hI KK hK => ?_) ?_
            ·
             have f0 := hI.ef hR hpre 0 rfl rfl rfl (by kernel_rfl)
             exact J_binOp rfl .lss _ (.tmp 33) (.const (.int .i64 0)) _ rfl (by rw [f0]; exact bf_lss _ _ _ _ W (by omega)) (hI.u0 hK rfl)
            refine .mf 1 rfl rfl rfl rfl rfl (by kernel_rfl) rfl ?_
            refine .cons (fun V Ld a W hLi hpre hR hI KK hK => ?_) ?_
            ·
             refine G_gw hI hR hpre 2 rfl rfl rfl rfl (by kernel_rfl) ?_
             have o1 := (hR.old 1 (by kernel_rfl)).trans (show _ = Value.pointer (some ⟨w.heap.size, 0, none⟩) from rfl)
             exact J_fieldAddr rfl _ (.tmp 1) 0 rfl (by rw [o1]; go_simp) (hI.u0 hK rfl)
            refine .cons (fun V Ld a W hLi hpre hR hI KK hK => ?_) ?_
            ·
             refine G_gw hI hR hpre 2 rfl rfl rfl rfl (by kernel_rfl) ?_
             have f3 := hI.ef hR hpre 3 rfl rfl rfl (by kernel_rfl)
             have c := (hI.st.bl.cell LD.out).trans D0.out
             exact J_load rfl _ (.tmp 36) rfl (by rw [f3]; go_simp) (hI.u0 hK rfl)
            refine .cons (fun V Ld a W hLi hpre hR hI KK hK => ?_) ?_
            ·
             refine G_gw hI hR hpre 2 rfl rfl rfl rfl (by kernel_rfl) ?_
             have o5 := (hR.old 5 (by kernel_rfl)).trans (show _ = Value.int .i64 ((f : Int)) from rfl)
             exact G_move rfl (.tmp 5) rfl o5 (hI.u0 hK rfl)
            refine .cons (fun V Ld a W hLi hpre hR hI KK hK => ?_) ?_
            ·
             refine G_gw hI hR hpre 2 rfl rfl rfl rfl (by kernel_rfl) ?_
             have f4 := hI.ef hR hpre 4 rfl rfl rfl (by kernel_rfl)
             have f5 := hI.ef hR hpre 5 rfl rfl rfl (by kernel_rfl)
             exact J_indexAddr rfl _ (.tmp 37) (.tmp 38) rfl (by rw [f4, f5]; go_simp) (hI.u0 hK rfl)
            refine .cons (fun V Ld a W hLi hpre hR hI KK hK => ?_) ?_
            ·
             refine G_gw hI hR hpre 2 rfl rfl rfl rfl (by kernel_rfl) ?_
             have f6 := hI.ef hR hpre 6 rfl rfl rfl (by kernel_rfl)
             exact J_fieldAddr rfl _ (.tmp 39) 1 rfl (by rw [f6]; go_simp) (hI.u0 hK rfl)
            refine .cons (fun V Ld a W hLi hpre hR hI KK hK => ?_) ?_
            ·
             refine G_gw hI hR hpre 2 rfl rfl rfl rfl (by kernel_rfl) ?_
             have f7 := hI.ef hR hpre 7 rfl rfl rfl (by kernel_rfl)
             have c := (hI.st.bl.cell LB.out).trans X1.out
             exact J_load rfl _ (.tmp 40) rfl (by rw [f7]; go_simp) (hI.u0 hK rfl)
            refine .cons (fun V Ld a W hLi hpre hR hI KK hK => ?_) ?_
            ·
             refine G_gw hI hR hpre 2 rfl rfl rfl rfl (by kernel_rfl) ?_
             have o4 := (hR.old 4 (by kernel_rfl)).trans (show _ = Value.pointer (some ⟨wr.heap.size, 0, none⟩) from rfl)
             exact J_fieldAddr rfl _ (.tmp 4) 2 rfl (by rw [o4]; go_simp) (hI.u0 hK rfl)
            refine .cons (fun V Ld a W hLi hpre hR hI KK hK => ?_) ?_
            ·
             refine G_gw hI hR hpre 2 rfl rfl rfl rfl (by kernel_rfl) ?_
             have f9 := hI.ef hR hpre 9 rfl rfl rfl (by kernel_rfl)
             have c := (hI.st.bl.cell LV.out).trans VC.out.c2
             exact J_load rfl _ (.tmp 42) rfl (by rw [f9]; go_simp) (hI.u0 hK rfl)
            refine .cons (fun V Ld a W hLi hpre hR hI KK hK => ?_) ?_
            ·
             refine G_gw hI hR hpre 2 rfl rfl rfl rfl (by kernel_rfl) ?_
             have f8 := hI.ef hR hpre 8 rfl rfl rfl (by kernel_rfl)
             have f10 := hI.ef hR hpre 10 rfl rfl rfl (by kernel_rfl)
             exact J_binOp rfl .neq _ (.tmp 41) (.tmp 43) _ rfl (by rw [f8, f10]; exact bf_neS _ _ _ _ W J2.out) (hI.u0 hK rfl)
            refine .cons (fun V Ld a W hLi hpre hR hI KK hK => ?_) ?_
            ·
             have f2 := hI.ef hR hpre 2 rfl rfl rfl (by kernel_rfl)
             have f11 := hI.ef hR hpre 11 rfl rfl rfl (by kernel_rfl)
             exact G_pick rfl (.tmp 35) (.const (.bool true)) (.tmp 44) rfl f2 (show _ = _ from f11) (hI.u0 hK rfl)
            refine .mf 12 rfl rfl rfl rfl rfl (by kernel_rfl) rfl ?_
            refine .cons (fun V Ld a W hLi hpre hR hI KK hK => ?_) ?_
            ·
             refine G_gw hI hR hpre 13 rfl rfl rfl rfl (by kernel_rfl) ?_
             have o4 := (hR.old 4 (by kernel_rfl)).trans (show _ = Value.pointer (some ⟨wr.heap.size, 0, none⟩) from rfl)
             exact J_fieldAddr rfl _ (.tmp 4) 1 rfl (by rw [o4]; go_simp) (hI.u0 hK rfl)
            refine .cons (fun V Ld a W hLi hpre hR hI KK hK => ?_) ?_
            ·
             refine G_gw hI hR hpre 13 rfl rfl rfl rfl (by kernel_rfl) ?_
             have f14 := hI.ef hR hpre 14 rfl rfl rfl (by kernel_rfl)
             have c := (hI.st.bl.cell LV.out).trans VC.out.c1
             exact J_load rfl _ (.tmp 47) rfl (by rw [f14]; go_simp) (hI.u0 hK rfl)
            refine .cons (fun V Ld a W hLi hpre hR hI KK hK => ?_) ?_
            ·
             refine G_gw hI hR hpre 13 rfl rfl rfl rfl (by kernel_rfl) ?_
             have f15 := hI.ef hR hpre 15 rfl rfl rfl (by kernel_rfl)
             exact G_len rfl (.tmp 48) _ rfl (by rw [f15]; go_simp) (hI.u0 hK rfl)
            refine .cons (fun V Ld a W hLi hpre hR hI KK hK => ?_) ?_
            ·
             refine G_gw hI hR hpre 13 rfl rfl rfl rfl (by kernel_rfl) ?_
             have f16 := hI.ef hR hpre 16 rfl rfl rfl (by kernel_rfl)
             exact J_binOp rfl .gtr _ (.tmp 49) (.const (.int .i64 256)) _ rfl (by rw [f16]; exact bf_gtr _ _ _ _ W J3.out) (hI.u0 hK rfl)
            refine .cons (fun V Ld a W hLi hpre hR hI KK hK => ?_) ?_
            ·
             have f13 := hI.ef hR hpre 13 rfl rfl rfl (by kernel_rfl)
             have f17 := hI.ef hR hpre 17 rfl rfl rfl (by kernel_rfl)
             exact G_pick rfl (.tmp 46) (.const (.bool true)) (.tmp 50) rfl f13 (show _ = _ from f17) (hI.u0 hK rfl)
            refine .mf 18 rfl rfl rfl rfl rfl (by kernel_rfl) rfl ?_
            refine .cons (fun V Ld a W hLi hpre hR hI KK hK => ?_) ?_
            ·
             refine G_gw hI hR hpre 19 rfl rfl rfl rfl (by kernel_rfl) ?_
             have o4 := (hR.old 4 (by kernel_rfl)).trans (show _ = Value.pointer (some ⟨wr.heap.size, 0, none⟩) from rfl)
             exact J_fieldAddr rfl _ (.tmp 4) 3 rfl (by rw [o4]; go_simp) (hI.u0 hK rfl)
            refine .cons (fun V Ld a W hLi hpre hR hI KK hK => ?_) ?_
            ·
             refine G_gw hI hR hpre 19 rfl rfl rfl rfl (by kernel_rfl) ?_
             have f20 := hI.ef hR hpre 20 rfl rfl rfl (by kernel_rfl)
             have c := (hI.st.bl.cell LV.out).trans VC.out.c3
             exact J_load rfl _ (.tmp 53) rfl (by rw [f20]; go_simp) (hI.u0 hK rfl)
            refine .cons (fun V Ld a W hLi hpre hR hI KK hK => ?_) ?_
            ·
             refine G_gw hI hR hpre 19 rfl rfl rfl rfl (by kernel_rfl) ?_
             have f21 := hI.ef hR hpre 21 rfl rfl rfl (by kernel_rfl)
             exact J_binOp rfl .lss _ (.tmp 54) (.const (.int .i64 0)) _ rfl (by rw [f21]; exact bf_lss _ _ _ _ W J4a.out) (hI.u0 hK rfl)
            refine .cons (fun V Ld a W hLi hpre hR hI KK hK => ?_) ?_
            ·
             have f19 := hI.ef hR hpre 19 rfl rfl rfl (by kernel_rfl)
             have f22 := hI.ef hR hpre 22 rfl rfl rfl (by kernel_rfl)
             exact G_pick rfl (.tmp 52) (.const (.bool true)) (.tmp 55) rfl f19 (show _ = _ from f22) (hI.u0 hK rfl)
            refine .mf 23 rfl rfl rfl rfl rfl (by kernel_rfl) rfl ?_
            refine .cons (fun V Ld a W hLi hpre hR hI KK hK => ?_) ?_
            ·
             refine G_gw hI hR hpre 24 rfl rfl rfl rfl (by kernel_rfl) ?_
             have o4 := (hR.old 4 (by kernel_rfl)).trans (show _ = Value.pointer (some ⟨wr.heap.size, 0, none⟩) from rfl)
             exact J_fieldAddr rfl _ (.tmp 4) 3 rfl (by rw [o4]; go_simp) (hI.u0 hK rfl)
            refine .cons (fun V Ld a W hLi hpre hR hI KK hK => ?_) ?_
            ·
             refine G_gw hI hR hpre 24 rfl rfl rfl rfl (by kernel_rfl) ?_
             have f25 := hI.ef hR hpre 25 rfl rfl rfl (by kernel_rfl)
             have c := (hI.st.bl.cell LV.out).trans VC.out.c3
             exact J_load rfl _ (.tmp 58) rfl (by rw [f25]; go_simp) (hI.u0 hK rfl)
            refine .cons (fun V Ld a W hLi hpre hR hI KK hK => ?_) ?_
            ·
             refine G_gw hI hR hpre 24 rfl rfl rfl rfl (by kernel_rfl) ?_
             have f26 := hI.ef hR hpre 26 rfl rfl rfl (by kernel_rfl)
             exact J_binOp rfl .gtr _ (.tmp 59) (.const (.int .i64 1099511627776)) _ rfl (by rw [f26]; exact bf_gtr _ _ _ _ W J4b.out) (hI.u0 hK rfl)
            refine .cons (fun V Ld a W hLi hpre hR hI KK hK => ?_) ?_
            ·
             have f24 := hI.ef hR hpre 24 rfl rfl rfl (by kernel_rfl)
             have f27 := hI.ef hR hpre 27 rfl rfl rfl (by kernel_rfl)
             exact G_pick rfl (.tmp 57) (.const (.bool true)) (.tmp 60) rfl f24 (show _ = _ from f27) (hI.u0 hK rfl)
            refine .mf 28 rfl rfl rfl rfl rfl (by kernel_rfl) rfl ?_
            refine .cons (fun V Ld a W hLi hpre hR hI KK hK => ?_) ?_
            ·
             refine G_gw hI hR hpre 29 rfl rfl rfl rfl (by kernel_rfl) ?_
             have o3 := (hR.old 3 (by kernel_rfl)).trans (show _ = Value.int .i64 ((k : Int)) from rfl)
             exact G_move rfl (.tmp 3) rfl o3 (hI.u0 hK rfl)
            refine .cons (fun V Ld a W hLi hpre hR hI KK hK => ?_) ?_
            ·
             refine G_gw hI hR hpre 29 rfl rfl rfl rfl (by kernel_rfl) ?_
             have f30 := hI.ef hR hpre 30 rfl rfl rfl (by kernel_rfl)
             exact J_binOp rfl .gtr _ (.tmp 63) (.const (.int .i64 0)) _ rfl (by rw [f30]; exact bt_gtr _ _ _ _ W Z1.out) (hI.u0 hK rfl)
            refine .cons (fun V Ld a W hLi hpre hR hI KK hK => ?_) ?_
            ·
             refine G_gw hI hR hpre 29 rfl rfl rfl rfl (by kernel_rfl) ?_
             have f31 := hI.ef hR hpre 31 rfl rfl rfl (by kernel_rfl)
             exact G_move rfl (.tmp 64) rfl f31 (hI.u0 hK rfl)
            refine .cons (fun V Ld a W hLi hpre hR hI KK hK => ?_) ?_
            ·
             refine G_gw hI hR hpre 32 rfl rfl rfl rfl (by kernel_rfl) ?_
             have o4 := (hR.old 4 (by kernel_rfl)).trans (show _ = Value.pointer (some ⟨wr.heap.size, 0, none⟩) from rfl)
             exact J_fieldAddr rfl _ (.tmp 4) 3 rfl (by rw [o4]; go_simp) (hI.u0 hK rfl)
            refine .cons (fun V Ld a W hLi hpre hR hI KK hK => ?_) ?_
            ·
             refine G_gw hI hR hpre 32 rfl rfl rfl rfl (by kernel_rfl) ?_
             have f33 := hI.ef hR hpre 33 rfl rfl rfl (by kernel_rfl)
             have c := (hI.st.bl.cell LV.out).trans VC.out.c3
             exact J_load rfl _ (.tmp 66) rfl (by rw [f33]; go_simp) (hI.u0 hK rfl)
            refine .cons (fun V Ld a W hLi hpre hR hI KK hK => ?_) ?_
            ·
             refine G_gw hI hR hpre 32 rfl rfl rfl rfl (by kernel_rfl) ?_
             have o1 := (hR.old 1 (by kernel_rfl)).trans (show _ = Value.pointer (some ⟨w.heap.size, 0, none⟩) from rfl)
             exact J_fieldAddr rfl _ (.tmp 1) 1 rfl (by rw [o1]; go_simp) (hI.u0 hK rfl)
            refine .cons (fun V Ld a W hLi hpre hR hI KK hK => ?_) ?_
            ·
             refine G_gw hI hR hpre 32 rfl rfl rfl rfl (by kernel_rfl) ?_
             have f35 := hI.ef hR hpre 35 rfl rfl rfl (by kernel_rfl)
             have c := (hI.st.bl.cell LD.out).trans D1.out
             exact J_load rfl _ (.tmp 68) rfl (by rw [f35]; go_simp) (hI.u0 hK rfl)
            refine .cons (fun V Ld a W hLi hpre hR hI KK hK => ?_) ?_
            ·
             refine G_gw hI hR hpre 32 rfl rfl rfl rfl (by kernel_rfl) ?_
             have o3 := (hR.old 3 (by kernel_rfl)).trans (show _ = Value.int .i64 ((k : Int)) from rfl)
             exact G_move rfl (.tmp 3) rfl o3 (hI.u0 hK rfl)
            refine .cons (fun V Ld a W hLi hpre hR hI KK hK => ?_) ?_
            ·
             refine G_gw hI hR hpre 32 rfl rfl rfl rfl (by kernel_rfl) ?_
             have f37 := hI.ef hR hpre 37 rfl rfl rfl (by kernel_rfl)
             exact J_binOp rfl .sub _ (.tmp 70) (.const (.int .i64 1)) _ rfl (by rw [f37]; exact b_prev _ _ W HM.out (by omega)) (hI.u0 hK rfl)
            refine .cons (fun V Ld a W hLi hpre hR hI KK hK => ?_) ?_
            ·
             refine G_gw hI hR hpre 32 rfl rfl rfl rfl (by kernel_rfl) ?_
             have f36 := hI.ef hR hpre 36 rfl rfl rfl (by kernel_rfl)
             have f38 := hI.ef hR hpre 38 rfl rfl rfl (by kernel_rfl)
             exact J_indexAddr rfl _ (.tmp 69) (.tmp 71) rfl (by rw [f36, f38]; go_simp) (hI.u0 hK rfl)
            refine .cons (fun V Ld a W hLi hpre hR hI KK hK => ?_) ?_
            ·
             refine G_gw hI hR hpre 32 rfl rfl rfl rfl (by kernel_rfl) ?_
             have f39 := hI.ef hR hpre 39 rfl rfl rfl (by kernel_rfl)
             exact J_fieldAddr rfl _ (.tmp 72) 3 rfl (by rw [f39]; go_simp) (hI.u0 hK rfl)
            refine .cons (fun V Ld a W hLi hpre hR hI KK hK => ?_) ?_
            ·
             refine G_gw hI hR hpre 32 rfl rfl rfl rfl (by kernel_rfl) ?_
             have f40 := hI.ef hR hpre 40 rfl rfl rfl (by kernel_rfl)
             have c := (hI.st.bl.cell LK.out).trans Y3.out
             exact J_load rfl _ (.tmp 73) rfl (by rw [f40]; go_simp) (hI.u0 hK rfl)
            refine .cons (fun V Ld a W hLi hpre hR hI KK hK => ?_) ?_
            ·
             refine G_gw hI hR hpre 32 rfl rfl rfl rfl (by kernel_rfl) ?_
             have f34 := hI.ef hR hpre 34 rfl rfl rfl (by kernel_rfl)
             have f41 := hI.ef hR hpre 41 rfl rfl rfl (by kernel_rfl)
             exact J_binOp rfl .lss _ (.tmp 67) (.tmp 74) _ rfl (by rw [f34, f41]; exact bf_lss _ _ _ _ W J5.out) (hI.u0 hK rfl)
            refine .cons (fun V Ld a W hLi hpre hR hI KK hK => ?_) ?_
            ·
             refine G_gw hI hR hpre 29 rfl rfl rfl rfl (by kernel_rfl) ?_
             have f32 := hI.ef hR hpre 32 rfl rfl rfl (by kernel_rfl)
             have f42 := hI.ef hR hpre 42 rfl rfl rfl (by kernel_rfl)
             exact G_pick rfl (.tmp 65) (.tmp 75) (.const (.bool false)) rfl f32 (show _ = _ from f42) (hI.u0 hK rfl)
            refine .cons (fun V Ld a W hLi hpre hR hI KK hK => ?_) trivial
            ·
             have f29 := hI.ef hR hpre 29 rfl rfl rfl (by kernel_rfl)
             have f43 := hI.ef hR hpre 43 rfl rfl rfl (by kernel_rfl)
             exact G_pick rfl (.tmp 62) (.const (.bool true)) (.tmp 76) rfl f29 (show _ = _ from f43) (hI.u0 hK rfl)
           case refine_3 =>
            intro V Ld w9 hLd hI
            have e9 : V 44 = .bool false := hI.val 44 _ rfl (hLd 44 (by decide))
            have hb9 := hI.st.bl
            clear hI hLd
            simp only [finL, putL, Act.put, Nat.reduceAdd]
            rw [e9]
            clear e9
            generalize V 0 = v0, V 1 = v1
            generalize V 2 = v2, V 3 = v3
            generalize V 4 = v4, V 5 = v5
            generalize V 6 = v6, V 7 = v7
            generalize V 8 = v8, V 9 = v9
            generalize V 10 = v10, V 11 = v11
            generalize V 12 = v12, V 13 = v13
            generalize V 14 = v14, V 15 = v15
            generalize V 16 = v16, V 17 = v17
            generalize V 18 = v18, V 19 = v19
            generalize V 20 = v20, V 21 = v21
            generalize V 22 = v22, V 23 = v23
            generalize V 24 = v24, V 25 = v25
            generalize V 26 = v26, V 27 = v27
            generalize V 28 = v28, V 29 = v29
            generalize V 30 = v30, V 31 = v31
            generalize V 32 = v32, V 33 = v33
            generalize V 34 = v34, V 35 = v35
            generalize V 36 = v36, V 37 = v37
            generalize V 38 = v38, V 39 = v39
            generalize V 40 = v40, V 41 = v41
            generalize V 42 = v42, V 43 = v43
            clear V
            simp only [List.setIfInBounds_toArray, List.set_cons_succ, List.set_cons_zero]
            go_wp2_with fail
            go_roundw
            case rel => exact ⟨k + 1, by omega, by go_num, HN.out, below_trans HBR.out (below_trans HW0.out hb9)⟩
            case measure => simp [intOf]; omega
          ·
           skip
           have Q5 := Lib.hid q5
           clear q5
           have HV := Lib.hid (HBADK.out _ hlt (cas_5 (prevK_n HM.out Q5.out)))
           have J2 := Lib.hid (show (x.o.toList == (kAt K k).o.toList) = true from by rw [hx.o]; exact Q2.out)
           have J3 := Lib.hid (show ((kAt K k).r.size : Int) ≤ 256 from by have h := of_decide_eq_false Q3.out; omega)
           have J4a := Lib.hid (show (0 : Int) ≤ (kAt K k).t from (inI_of Q4.out).1)
           have J4b := Lib.hid (show (kAt K k).t ≤ (1099511627776 : Int) from (inI_of Q4.out).2)
           have J5 := Lib.hid (show (kAt K k).t < (kAt K m).t from by have := Q5.out; omega)
           clear hx
           go_wp2_with fail
           refine wp_region_J2 (GI (R := Bl) [Pr.eq (.int .i64 ((f : Int))), Pr.eq (.bool false), Pr.eq (.bool false), Pr.eq (.pointer (some ⟨w.heap.size, 0, none⟩)), Pr.eq (.slice (some ⟨b, off, none⟩) C.length ca), Pr.eq (.int .i64 ((f : Int))), Pr.eq (.pointer (some ⟨b, off + f * 3, none⟩)), Pr.eq (.pointer (some ⟨b, off + f * 3 + 1, none⟩)), Pr.eq (.string (x.o)), Pr.eq (.pointer (some ⟨wr.heap.size, 2, none⟩)), Pr.eq (.string ((kAt K k).o)), Pr.eq (.bool false), Pr.eq (.bool false), Pr.eq (.bool false), Pr.eq (.pointer (some ⟨wr.heap.size, 1, none⟩)), Pr.eq (.string ((kAt K k).r)), Pr.eq (.int .i64 (((kAt K k).r.size : Int))), Pr.eq (.bool false), Pr.eq (.bool false), Pr.eq (.bool false), Pr.eq (.pointer (some ⟨wr.heap.size, 3, none⟩)), Pr.eq (.int .i64 ((kAt K k).t)), Pr.eq (.bool false), Pr.eq (.bool false), Pr.eq (.bool false), Pr.eq (.pointer (some ⟨wr.heap.size, 3, none⟩)), Pr.eq (.int .i64 ((kAt K k).t)), Pr.eq (.bool false), Pr.eq (.bool false), Pr.eq (.bool false), Pr.eq (.int .i64 ((k : Int))), Pr.eq (.bool true), Pr.eq (.bool true), Pr.eq (.pointer (some ⟨wr.heap.size, 3, none⟩)), Pr.eq (.int .i64 ((kAt K k).t)), Pr.eq (.pointer (some ⟨w.heap.size, 1, none⟩)), Pr.eq (.slice (some ⟨kb, ko, none⟩) K.length cb), Pr.eq (.int .i64 ((k : Int))), Pr.eq (.int .i64 ((m : Int))), Pr.eq (.pointer (some ⟨kb, ko + m * 5, none⟩)), Pr.eq (.pointer (some ⟨kb, ko + m * 5 + 3, none⟩)), Pr.eq (.int .i64 ((kAt K m).t)), Pr.eq (.bool true), Pr.eq (.bool true), Pr.eq (.bool true)] (GrS w0)) (by kernel_rfl) (by kernel_rfl) (by kernel_rfl) ?_ ?_ ?_
           case refine_1 => exact fun V => GI.start (GrS.start _ _ _)
           case refine_2 =>
            refine .cons (fun V Ld a W hLi hpre hR hI KK hK => ?_) ?_
            ·
             have o5 := (hR.old 5 (by kernel_rfl)).trans (show _ = Value.int .i64 ((f : Int)) from rfl)
             exact G_move rfl (.tmp 5) rfl o5 (hI.u0 hK rfl)
            refine .cons (fun V Ld a W hLi hpre hR hI KK hK => ?_) ?_
            ·
             have f0 := hI.ef hR hpre 0 rfl rfl rfl (by kernel_rfl)
             exact J_binOp rfl .lss _ (.tmp 33) (.const (.int .i64 0)) _ rfl (by rw [f0]; exact bf_lss _ _ _ _ W (by omega)) (hI.u0 hK rfl)
            refine .mf 1 rfl rfl rfl rfl rfl (by kernel_rfl) rfl ?_
            refine .cons (fun V Ld a W hLi hpre hR hI KK hK => ?_) ?_
            ·
             refine G_gw hI hR hpre 2 rfl rfl rfl rfl (by kernel_rfl) ?_
             have o1 := (hR.old 1 (by kernel_rfl)).trans (show _ = Value.pointer (some ⟨w.heap.size, 0, none⟩) from rfl)
             exact J_fieldAddr rfl _ (.tmp 1) 0 rfl (by rw [o1]; go_simp) (hI.u0 hK rfl)
            refine .cons (fun V Ld a W hLi hpre hR hI KK hK => ?_) ?_
            ·
             refine G_gw hI hR hpre 2 rfl rfl rfl rfl (by kernel_rfl) ?_
             have f3 := hI.ef hR hpre 3 rfl rfl rfl (by kernel_rfl)
             have c := (hI.st.bl.cell LD.out).trans D0.out
             exact J_load rfl _ (.tmp 36) rfl (by rw [f3]; go_simp) (hI.u0 hK rfl)
            refine .cons (fun V Ld a W hLi hpre hR hI KK hK => ?_) ?_
            ·
             refine G_gw hI hR hpre 2 rfl rfl rfl rfl (by kernel_rfl) ?_
             have o5 := (hR.old 5 (by kernel_rfl)).trans (show _ = Value.int .i64 ((f : Int)) from rfl)
             exact G_move rfl (.tmp 5) rfl o5 (hI.u0 hK rfl)
            refine .cons (fun V Ld a W hLi hpre hR hI KK hK => ?_) ?_
            ·
             refine G_gw hI hR hpre 2 rfl rfl rfl rfl (by kernel_rfl) ?_
             have f4 := hI.ef hR hpre 4 rfl rfl rfl (by kernel_rfl)
             have f5 := hI.ef hR hpre 5 rfl rfl rfl (by kernel_rfl)
             exact J_indexAddr rfl _ (.tmp 37) (.tmp 38) rfl (by rw [f4, f5]; go_simp) (hI.u0 hK rfl)
            refine .cons (fun V Ld a W hLi hpre hR hI KK hK => ?_) ?_
            ·
             refine G_gw hI hR hpre 2 rfl rfl rfl rfl (by kernel_rfl) ?_
             have f6 := hI.ef hR hpre 6 rfl rfl rfl (by kernel_rfl)
             exact J_fieldAddr rfl _ (.tmp 39) 1 rfl (by rw [f6]; go_simp) (hI.u0 hK rfl)
            refine .cons (fun V Ld a W hLi hpre hR hI KK hK => ?_) ?_
            ·
             refine G_gw hI hR hpre 2 rfl rfl rfl rfl (by kernel_rfl) ?_
             have f7 := hI.ef hR hpre 7 rfl rfl rfl (by kernel_rfl)
             have c := (hI.st.bl.cell LB.out).trans X1.out
             exact J_load rfl _ (.tmp 40) rfl (by rw [f7]; go_simp) (hI.u0 hK rfl)
            refine .cons (fun V Ld a W hLi hpre hR hI KK hK => ?_) ?_
            ·
             refine G_gw hI hR hpre 2 rfl rfl rfl rfl (by kernel_rfl) ?_
             have o4 := (hR.old 4 (by kernel_rfl)).trans (show _ = Value.pointer (some ⟨wr.heap.size, 0, none⟩) from rfl)
             exact J_fieldAddr rfl _ (.tmp 4) 2 rfl (by rw [o4]; go_simp) (hI.u0 hK rfl)
            refine .cons (fun V Ld a W hLi hpre hR hI KK hK => ?_) ?_
            ·
             refine G_gw hI hR hpre 2 rfl rfl rfl rfl (by kernel_rfl) ?_
             have f9 := hI.ef hR hpre 9 rfl rfl rfl (by kernel_rfl)
             have c := (hI.st.bl.cell LV.out).trans VC.out.c2
             exact J_load rfl _ (.tmp 42) rfl (by rw [f9]; go_simp) (hI.u0 hK rfl)
            refine .cons (fun V Ld a W hLi hpre hR hI KK hK => ?_) ?_
            ·
             refine G_gw hI hR hpre 2 rfl rfl rfl rfl (by kernel_rfl) ?_
             have f8 := hI.ef hR hpre 8 rfl rfl rfl (by kernel_rfl)
             have f10 := hI.ef hR hpre 10 rfl rfl rfl (by kernel_rfl)
             exact J_binOp rfl .neq _ (.tmp 41) (.tmp 43) _ rfl (by rw [f8, f10]; exact bf_neS _ _ _ _ W J2.out) (hI.u0 hK rfl)
            refine .cons (fun V Ld a W hLi hpre hR hI KK hK => ?_) ?_
            ·
             have f2 := hI.ef hR hpre 2 rfl rfl rfl (by kernel_rfl)
             have f11 := hI.ef hR hpre 11 rfl rfl rfl (by kernel_rfl)
             exact G_pick rfl (.tmp 35) (.const (.bool true)) (.tmp 44) rfl f2 (show _ = _ from f11) (hI.u0 hK rfl)
            refine .mf 12 rfl rfl rfl rfl rfl (by kernel_rfl) rfl ?_
            refine .cons (fun V Ld a W hLi hpre hR hI KK hK => ?_) ?_
            ·
             refine G_gw hI hR hpre 13 rfl rfl rfl rfl (by kernel_rfl) ?_
             have o4 := (hR.old 4 (by kernel_rfl)).trans (show _ = Value.pointer (some ⟨wr.heap.size, 0, none⟩) from rfl)
             exact J_fieldAddr rfl _ (.tmp 4) 1 rfl (by rw [o4]; go_simp) (hI.u0 hK rfl)
            refine .cons (fun V Ld a W hLi hpre hR hI KK hK => ?_) ?_
            ·
             refine G_gw hI hR hpre 13 rfl rfl rfl rfl (by kernel_rfl) ?_
             have f14 := hI.ef hR hpre 14 rfl rfl rfl (by kernel_rfl)
             have c := (hI.st.bl.cell LV.out).trans VC.out.c1
             exact J_load rfl _ (.tmp 47) rfl (by rw [f14]; go_simp) (hI.u0 hK rfl)
            refine .cons (fun V Ld a W hLi hpre hR hI KK hK => ?_) ?_
            ·
             refine G_gw hI hR hpre 13 rfl rfl rfl rfl (by kernel_rfl) ?_
             have f15 := hI.ef hR hpre 15 rfl rfl rfl (by kernel_rfl)
             exact G_len rfl (.tmp 48) _ rfl (by rw [f15]; go_simp) (hI.u0 hK rfl)
            refine .cons (fun V Ld a W hLi hpre hR hI KK hK => ?_) ?_
            ·
             refine G_gw hI hR hpre 13 rfl rfl rfl rfl (by kernel_rfl) ?_
             have f16 := hI.ef hR hpre 16 rfl rfl rfl (by kernel_rfl)
             exact J_binOp rfl .gtr _ (.tmp 49) (.const (.int .i64 256)) _ rfl (by rw [f16]; exact bf_gtr _ _ _ _ W J3.out) (hI.u0 hK rfl)
            refine .cons (fun V Ld a W hLi hpre hR hI KK hK => ?_) ?_
            ·
             have f13 := hI.ef hR hpre 13 rfl rfl rfl (by kernel_rfl)
             have f17 := hI.ef hR hpre 17 rfl rfl rfl (by kernel_rfl)
             exact G_pick rfl (.tmp 46) (.const (.bool true)) (.tmp 50) rfl f13 (show _ = _ from f17) (hI.u0 hK rfl)
            refine .mf 18 rfl rfl rfl rfl rfl (by kernel_rfl) rfl ?_
            refine .cons (fun V Ld a W hLi hpre hR hI KK hK => ?_) ?_
            ·
             refine G_gw hI hR hpre 19 rfl rfl rfl rfl (by kernel_rfl) ?_
             have o4 := (hR.old 4 (by kernel_rfl)).trans (show _ = Value.pointer (some ⟨wr.heap.size, 0, none⟩) from rfl)
             exact J_fieldAddr rfl _ (.tmp 4) 3 rfl (by rw [o4]; go_simp) (hI.u0 hK rfl)
            refine .cons (fun V Ld a W hLi hpre hR hI KK hK => ?_) ?_
            ·
             refine G_gw hI hR hpre 19 rfl rfl rfl rfl (by kernel_rfl) ?_
             have f20 := hI.ef hR hpre 20 rfl rfl rfl (by kernel_rfl)
             have c := (hI.st.bl.cell LV.out).trans VC.out.c3
             exact J_load rfl _ (.tmp 53) rfl (by rw [f20]; go_simp) (hI.u0 hK rfl)
            refine .cons (fun V Ld a W hLi hpre hR hI KK hK => ?_) ?_
            ·
             refine G_gw hI hR hpre 19 rfl rfl rfl rfl (by kernel_rfl) ?_
             have f21 := hI.ef hR hpre 21 rfl rfl rfl (by kernel_rfl)
             exact J_binOp rfl .lss _ (.tmp 54) (.const (.int .i64 0)) _ rfl (by rw [f21]; exact bf_lss _ _ _ _ W J4a.out) (hI.u0 hK rfl)
            refine .cons (fun V Ld a W hLi hpre hR hI KK hK => ?_) ?_
            ·
             have f19 := hI.ef hR hpre 19 rfl rfl rfl (by kernel_rfl)
             have f22 := hI.ef hR hpre 22 rfl rfl rfl (by kernel_rfl)
             exact G_pick rfl (.tmp 52) (.const (.bool true)) (.tmp 55) rfl f19 (show _ = _ from f22) (hI.u0 hK rfl)
            refine .mf 23 rfl rfl rfl rfl rfl (by kernel_rfl) rfl ?_
            refine .cons (fun V Ld a W hLi hpre hR hI KK hK => ?_) ?_
            ·
             refine G_gw hI hR hpre 24 rfl rfl rfl rfl (by kernel_rfl) ?_
             have o4 := (hR.old 4 (by kernel_rfl)).trans (show _ = Value.pointer (some ⟨wr.heap.size, 0, none⟩) from rfl)
             exact J_fieldAddr rfl _ (.tmp 4) 3 rfl (by rw [o4]; go_simp) (hI.u0 hK rfl)
            refine .cons (fun V Ld a W hLi hpre hR hI KK hK => ?_) ?_
            ·
             refine G_gw hI hR hpre 24 rfl rfl rfl rfl (by kernel_rfl) ?_
             have f25 := hI.ef hR hpre 25 rfl rfl rfl (by kernel_rfl)
             have c := (hI.st.bl.cell LV.out).trans VC.out.c3
             exact J_load rfl _ (.tmp 58) rfl (by rw [f25]; go_simp) (hI.u0 hK rfl)
            refine .cons (fun V Ld a W hLi hpre hR hI KK hK => ?_) ?_
            ·
             refine G_gw hI hR hpre 24 rfl rfl rfl rfl (by kernel_rfl) ?_
             have f26 := hI.ef hR hpre 26 rfl rfl rfl (by kernel_rfl)
             exact J_binOp rfl .gtr _ (.tmp 59) (.const (.int .i64 1099511627776)) _ rfl (by rw [f26]; exact bf_gtr _ _ _ _ W J4b.out) (hI.u0 hK rfl)
            refine .cons (fun V Ld a W hLi hpre hR hI KK hK => ?_) ?_
            ·
             have f24 := hI.ef hR hpre 24 rfl rfl rfl (by kernel_rfl)
             have f27 := hI.ef hR hpre 27 rfl rfl rfl (by kernel_rfl)
             exact G_pick rfl (.tmp 57) (.const (.bool true)) (.tmp 60) rfl f24 (show _ = _ from f27) (hI.u0 hK rfl)
            refine .mf 28 rfl rfl rfl rfl rfl (by kernel_rfl) rfl ?_
            refine .cons (fun V Ld a W hLi hpre hR hI KK hK => ?_) ?_
            ·
             refine G_gw hI hR hpre 29 rfl rfl rfl rfl (by kernel_rfl) ?_
             have o3 := (hR.old 3 (by kernel_rfl)).trans (show _ = Value.int .i64 ((k : Int)) from rfl)
             exact G_move rfl (.tmp 3) rfl o3 (hI.u0 hK rfl)
            refine .cons (fun V Ld a W hLi hpre hR hI KK hK => ?_) ?_
            ·
             refine G_gw hI hR hpre 29 rfl rfl rfl rfl (by kernel_rfl) ?_
             have f30 := hI.ef hR hpre 30 rfl rfl rfl (by kernel_rfl)
             exact J_binOp rfl .gtr _ (.tmp 63) (.const (.int .i64 0)) _ rfl (by rw [f30]; exact bt_gtr _ _ _ _ W Z1.out) (hI.u0 hK rfl)
            refine .cons (fun V Ld a W hLi hpre hR hI KK hK => ?_) ?_
            ·
             refine G_gw hI hR hpre 29 rfl rfl rfl rfl (by kernel_rfl) ?_
             have f31 := hI.ef hR hpre 31 rfl rfl rfl (by kernel_rfl)
             exact G_move rfl (.tmp 64) rfl f31 (hI.u0 hK rfl)
            refine .cons (fun V Ld a W hLi hpre hR hI KK hK => ?_) ?_
            ·
             refine G_gw hI hR hpre 32 rfl rfl rfl rfl (by kernel_rfl) ?_
             have o4 := (hR.old 4 (by kernel_rfl)).trans (show _ = Value.pointer (some ⟨wr.heap.size, 0, none⟩) from rfl)
             exact J_fieldAddr rfl _ (.tmp 4) 3 rfl (by rw [o4]; go_simp) (hI.u0 hK rfl)
            refine .cons (fun V Ld a W hLi hpre hR hI KK hK => ?_) ?_
            ·
             refine G_gw hI hR hpre 32 rfl rfl rfl rfl (by kernel_rfl) ?_
             have f33 := hI.ef hR hpre 33 rfl rfl rfl (by kernel_rfl)
             have c := (hI.st.bl.cell LV.out).trans VC.out.c3
             exact J_load rfl _ (.tmp 66) rfl (by rw [f33]; go_simp) (hI.u0 hK rfl)
            refine .cons (fun V Ld a W hLi hpre hR hI KK hK => ?_) ?_
            ·
             refine G_gw hI hR hpre 32 rfl rfl rfl rfl (by kernel_rfl) ?_
             have o1 := (hR.old 1 (by kernel_rfl)).trans (show _ = Value.pointer (some ⟨w.heap.size, 0, none⟩) from rfl)
             exact J_fieldAddr rfl _ (.tmp 1) 1 rfl (by rw [o1]; go_simp) (hI.u0 hK rfl)
            refine .cons (fun V Ld a W hLi hpre hR hI KK hK => ?_) ?_
            ·
             refine G_gw hI hR hpre 32 rfl rfl rfl rfl (by kernel_rfl) ?_
             have f35 := hI.ef hR hpre 35 rfl rfl rfl (by kernel_rfl)
             have c := (hI.st.bl.cell LD.out).trans D1.out
             exact J_load rfl _ (.tmp 68) rfl (by rw [f35]; go_simp) (hI.u0 hK rfl)
            refine .cons (fun V Ld a W hLi hpre hR hI KK hK => ?_) ?_
            ·
             refine G_gw hI hR hpre 32 rfl rfl rfl rfl (by kernel_rfl) ?_
             have o3 := (hR.old 3 (by kernel_rfl)).trans (show _ = Value.int .i64 ((k : Int)) from rfl)
             exact G_move rfl (.tmp 3) rfl o3 (hI.u0 hK rfl)
            refine .cons (fun V Ld a W hLi hpre hR hI KK hK => ?_) ?_
            ·
             refine G_gw hI hR hpre 32 rfl rfl rfl rfl (by kernel_rfl) ?_
             have f37 := hI.ef hR hpre 37 rfl rfl rfl (by kernel_rfl)
             exact J_binOp rfl .sub _ (.tmp 70) (.const (.int .i64 1)) _ rfl (by rw [f37]; exact b_prev _ _ W HM.out (by omega)) (hI.u0 hK rfl)
            refine .cons (fun V Ld a W hLi hpre hR hI KK hK => ?_) ?_
            ·
             refine G_gw hI hR hpre 32 rfl rfl rfl rfl (by kernel_rfl) ?_
             have f36 := hI.ef hR hpre 36 rfl rfl rfl (by kernel_rfl)
             have f38 := hI.ef hR hpre 38 rfl rfl rfl (by kernel_rfl)
             exact J_indexAddr rfl _ (.tmp 69) (.tmp 71) rfl (by rw [f36, f38]; go_simp) (hI.u0 hK rfl)
            refine .cons (fun V Ld a W hLi hpre hR hI KK hK => ?_) ?_
            ·
             refine G_gw hI hR hpre 32 rfl rfl rfl rfl (by kernel_rfl) ?_
             have f39 := hI.ef hR hpre 39 rfl rfl rfl (by kernel_rfl)
             exact J_fieldAddr rfl _ (.tmp 72) 3 rfl (by rw [f39]; go_simp) (hI.u0 hK rfl)
            refine .cons (fun V Ld a W hLi hpre hR hI KK hK => ?_) ?_
            ·
             refine G_gw hI hR hpre 32 rfl rfl rfl rfl (by kernel_rfl) ?_
             have f40 := hI.ef hR hpre 40 rfl rfl rfl (by kernel_rfl)
             have c := (hI.st.bl.cell LK.out).trans Y3.out
             exact J_load rfl _ (.tmp 73) rfl (by rw [f40]; go_simp) (hI.u0 hK rfl)
            refine .cons (fun V Ld a W hLi hpre hR hI KK hK => ?_) ?_
            ·
             refine G_gw hI hR hpre 32 rfl rfl rfl rfl (by kernel_rfl) ?_
             have f34 := hI.ef hR hpre 34 rfl rfl rfl (by kernel_rfl)
             have f41 := hI.ef hR hpre 41 rfl rfl rfl (by kernel_rfl)
             exact J_binOp rfl .lss _ (.tmp 67) (.tmp 74) _ rfl (by rw [f34, f41]; exact bt_lss _ _ _ _ W J5.out) (hI.u0 hK rfl)
            refine .cons (fun V Ld a W hLi hpre hR hI KK hK => ?_) ?_
            ·
             refine G_gw hI hR hpre 29 rfl rfl rfl rfl (by kernel_rfl) ?_
             have f32 := hI.ef hR hpre 32 rfl rfl rfl (by kernel_rfl)
             have f42 := hI.ef hR hpre 42 rfl rfl rfl (by kernel_rfl)
             exact G_pick rfl (.tmp 65) (.tmp 75) (.const (.bool false)) rfl f32 (show _ = _ from f42) (hI.u0 hK rfl)
            refine .cons (fun V Ld a W hLi hpre hR hI KK hK => ?_) trivial
            ·
             have f29 := hI.ef hR hpre 29 rfl rfl rfl (by kernel_rfl)
             have f43 := hI.ef hR hpre 43 rfl rfl rfl (by kernel_rfl)
             exact G_pick rfl (.tmp 62) (.const (.bool true)) (.tmp 76) rfl f29 (show _ = _ from f43) (hI.u0 hK rfl)
           case refine_3 =>
            intro V Ld w9 hLd hI
            have e9 : V 44 = .bool true := hI.val 44 _ rfl (hLd 44 (by decide))
            have hb9 := hI.st.bl
            clear hI hLd
            simp only [finL, putL, Act.put, Nat.reduceAdd]
            rw [e9]
            clear e9
            generalize V 0 = v0, V 1 = v1
            generalize V 2 = v2, V 3 = v3
            generalize V 4 = v4, V 5 = v5
            generalize V 6 = v6, V 7 = v7
            generalize V 8 = v8, V 9 = v9
            generalize V 10 = v10, V 11 = v11
            generalize V 12 = v12, V 13 = v13
            generalize V 14 = v14, V 15 = v15
            generalize V 16 = v16, V 17 = v17
            generalize V 18 = v18, V 19 = v19
            generalize V 20 = v20, V 21 = v21
            generalize V 22 = v22, V 23 = v23
            generalize V 24 = v24, V 25 = v25
            generalize V 26 = v26, V 27 = v27
            generalize V 28 = v28, V 29 = v29
            generalize V 30 = v30, V 31 = v31
            generalize V 32 = v32, V 33 = v33
            generalize V 34 = v34, V 35 = v35
            generalize V 36 = v36, V 37 = v37
            generalize V 38 = v38, V 39 = v39
            generalize V 40 = v40, V 41 = v41
            generalize V 42 = v42, V 43 = v43
            clear V
            simp only [List.setIfInBounds_toArray, List.set_cons_succ, List.set_cons_zero]
            go_wp2_with fail
            go_ret
            exact RetB.int HV.out (HBW.out.trans ((HW0.out.trans (hb9.mono HW0.out.size)).mono HBW.out.size))
    ·
     obtain rfl : K.length = k := by omega
     have hkl : ¬ (K.length : Int) < (K.length : Int) := by omega
     have HDR := HDC.out.below hbr
     have d0 := HDR.c0
     have d1 := HDR.c1
     go_wp2_with fail
     go_ret
     exact RetB.int (HOK.out HK.out) HBW.out
  ·
   have HV := Lib.hid (chk_lk (D := ⟨C, K⟩) (show 256 < K.length by omega))
   have g2' : (256 : Int) < (K.length : Int) := by omega
   go_enter Try.func19, Try.ntmps19
   go_wp2_with fail
   refine gen_calls fun wa hwa => ?_
   have hba : Below w.heap.size w wa := by rw [hwa]; exact below_alloc _ _
   have HDA := Lib.hid (show DeskCell wa w.heap.size (.slice A C.length ca) (.slice B K.length cb) from by rw [hwa]; exact DeskCell.new _ _ rfl)
   clear hwa
   refine ret_below (HRC.out _ hba) fun w3 hb3 => ?_
   have HDC := Lib.hid (HDA.out.below hb3)
   have HB3 := Lib.hid (below_trans hba hb3)
   have d1 := HDC.out.c1
   have ld := HDC.out.lt
   clear hba hb3 HDA
   go_wp2_with fail
   go_ret
   exact RetB.int HV.out HB3.out
end Go.Proofs.Ytjckpammcgeloaa
