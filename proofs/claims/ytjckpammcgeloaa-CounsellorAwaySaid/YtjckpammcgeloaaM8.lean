/-
  Desks: the document's choice.
  Conditions: those that each theorem names.
-/
import Derived.Test.YtjckpammcgeloaaM7
set_option linter.unusedVariables false
set_option linter.unusedSimpArgs false
namespace Go.Proofs.Ytjckpammcgeloaa
open Go.RowKit

theorem enter_runs (args : Array Value) (w : World) : (callFunc 46 args).run Try.prog w = .ok (.enter 46 args) w :=
 Go.MuLone.run_callFunc_enter Try.func46 (by kernel_rfl) rfl args w
theorem enter_tot (args : Array Value) (w : World) : (callFunc 69 args).run Try.prog w = .ok (.enter 69 args) w :=
 Go.MuLone.run_callFunc_enter Try.func69 (by kernel_rfl) rfl args w
def lenP (n : Nat) : Pr Bl := ⟨fun v _ => ∃ A c, v = .slice A n c, fun _ _ _ h _ => h⟩
theorem lenP_of {K : List CaseD} {id : Int} {w : World} {base : Nat} {v : Value} (h : ElOwn EK 37 w base v (unseenL K id)) : (lenP (loadN K id)).p v w := by
 obtain ⟨A, c, e, -⟩ := h.toP
 exact ⟨A, c, by rw [e, unseen_len]⟩
theorem bst_bd (K : List CaseD) (C : List CouD) (r o : ByteArray) : ∀ j, bstI K C r o j = -1 ∨ ∃ b : Nat, bstI K C r o j = b ∧ b < j
 | 0 => .inl rfl
 | j + 1 => by
  rw [show bstI K C r o (j + 1) = if canB (cAt C j) r o = true then (if bstI K C r o j < 0 then (j : Int) else if betB K C j (bstI K C r o j).toNat = true then (j : Int) else bstI K C r o j) else bstI K C r o j from rfl]
  rcases bst_bd K C r o j with h | ⟨b, h, hb⟩
  ·
   rw [h]
   split
   ·
    rw [if_pos (by decide)]; exact .inr ⟨j, rfl, by omega⟩
   ·
    exact .inl rfl
  ·
   rw [h]
   split
   ·
    rw [if_neg (by omega)]
    split
    ·
     exact .inr ⟨j, rfl, by omega⟩
    ·
     exact .inr ⟨b, rfl, by omega⟩
   ·
    exact .inr ⟨b, rfl, by omega⟩
section
variable {K : List CaseD} {C : List CouD} {r o : ByteArray} {j b : Nat}
theorem bst_no (h : canB (cAt C j) r o = false) : bstI K C r o (j + 1) = bstI K C r o j := by
 show (if _ then _ else _) = _
 rw [if_neg (by rw [h]; decide)]
theorem bst_first (h : canB (cAt C j) r o = true) (hq : bstI K C r o j = -1) : bstI K C r o (j + 1) = (j : Int) := by
 show (if _ then _ else _) = _
 rw [if_pos h, hq, if_pos (by decide)]
theorem bst_y (h : canB (cAt C j) r o = true) (hq : bstI K C r o j = (b : Int)) (hb : betB K C j b = true) : bstI K C r o (j + 1) = (j : Int) := by
 show (if _ then _ else _) = _
 rw [if_pos h, hq, if_neg (by omega), Int.toNat_natCast, if_pos hb]
theorem bst_n (h : canB (cAt C j) r o = true) (hq : bstI K C r o j = (b : Int)) (hb : betB K C j b = false) : bstI K C r o (j + 1) = (b : Int) := by
 show (if _ then _ else _) = _
 rw [if_pos h, hq, if_neg (by omega), Int.toNat_natCast, if_neg (by rw [hb]; decide)]
theorem bet_lt (h : (loadN K (cAt C j).id : Int) < (loadN K (cAt C b).id : Int)) : betB K C j b = true := by
 unfold betB; rw [decide_eq_true (by omega), Bool.true_or]
theorem bet_gt (h : (loadN K (cAt C b).id : Int) ≤ (loadN K (cAt C j).id : Int)) (g : ((loadN K (cAt C j).id : Int) == (loadN K (cAt C b).id : Int)) = false) : betB K C j b = false := by
 have g := beq_eq_false_iff_ne.1 g
 unfold betB; rw [decide_eq_false (by omega), decide_eq_false (by omega)]; rfl
theorem bet_e1 (g : ((loadN K (cAt C j).id : Int) == (loadN K (cAt C b).id : Int)) = true) (h : (casN K (cAt C j).id : Int) < (casN K (cAt C b).id : Int)) : betB K C j b = true := by
 have g := eq_of_beq g
 unfold betB; rw [decide_eq_true (show loadN K (cAt C j).id = loadN K (cAt C b).id by omega), decide_eq_true (show casN K (cAt C j).id < casN K (cAt C b).id by omega)]; simp
theorem bet_e0 (g : ((loadN K (cAt C j).id : Int) == (loadN K (cAt C b).id : Int)) = true) (h : (casN K (cAt C b).id : Int) ≤ (casN K (cAt C j).id : Int)) : betB K C j b = false := by
 have g := eq_of_beq g
 unfold betB; rw [decide_eq_false (show ¬ loadN K (cAt C j).id < loadN K (cAt C b).id by omega), decide_eq_false (show ¬ casN K (cAt C j).id < casN K (cAt C b).id by omega)]; simp
end
theorem find_rev {K : List CaseD} {T : CaseD → Bool} {m : Nat} (hm : m < K.length) (h : T (kAt K m) = true) (hn : ∀ j, m < j → j < K.length → T (kAt K j) = false) : K.reverse.find? T = some (kAt K m) := by
 have hd : ∀ x ∈ K.drop (m + 1), T x = false := fun x hx => by
  obtain ⟨j, hj, hjl, rfl⟩ := kAt_mem hx
  exact hn j (by omega) hjl
 have hK : K = K.take m ++ ([kAt K m] ++ K.drop (m + 1)) := by
  rw [← List.append_assoc, ← take_k hm, List.take_append_drop]
 generalize kAt K m = x at *
 generalize K.take m = K1 at *
 generalize K.drop (m + 1) = K2 at *
 rw [hK]
 simp only [List.reverse_append, List.find?_append, List.reverse_cons, List.reverse_nil, List.nil_append]
 rw [show K2.reverse.find? T = none from List.find?_eq_none.2 fun x hx => by rw [hd x (List.mem_reverse.1 hx)]; simp]
 simp [h]
theorem find_none {K : List CaseD} {T : CaseD → Bool} (hn : ∀ j, j < K.length → T (kAt K j) = false) : K.reverse.find? T = none := by
 rw [List.find?_eq_none]
 intro x hx
 obtain ⟨j, hj, rfl⟩ := kAt_of (List.mem_reverse.1 hx)
 rw [hn j hj]; simp
set_option maxRecDepth 100000 in
set_option maxHeartbeats 8000000 in
theorem refChoose_any {P : Nat → Prop} (v : Value) (r o : ByteArray) (D : DeskD) (w : World) (hD : DeskR P w v D) (sD : DeskS D) :
  Calls Try.prog 62 #[v, .string r, .string o] w (RetB (.int .i64 (refCh D r o)) w) := by
 obtain ⟨A, ca, B, cb, rfl, h1, h2⟩ := hD
 obtain ⟨C, K⟩ := D
 have HC := Lib.hid h1
 have HKS := Lib.hid h2
 have HA := Lib.hid (show ∀ k, k < C.length → (cAt C k).away.length ≤ 1000 from fun k hk => (sD.co k hk).2.1)
 have lc : C.length ≤ 1000 := sD.lc
 have lk : K.length ≤ 1000 := sD.lk
 clear h1 h2 sD
 go_enter Try.func62, Try.ntmps62
 go_wp2_with fail
 refine gen_world fun wh hwh => ?_
 have HBH := Lib.hid (show Below w.heap.size w wh from by rw [hwh]; exact below_alloc _ _)
 have HDC := Lib.hid (show DeskCell wh w.heap.size (.slice A C.length ca) (.slice B K.length cb) from by rw [hwh]; exact DeskCell.new _ _ rfl)
 clear hwh
 generalize hbx : w.heap.size = bx at *
 have HBX := Lib.hid hbx
 clear hbx
 have HBZ := Lib.hid (fun (W : World) (hb : Below wh.heap.size wh W) => show Below w.heap.size w W from by rw [HBX.out]; exact HBH.out.trans (hb.mono (by have := HBH.out.size; rw [HBX.out] at this; exact this)))
 go_loopw [7] (fun i wr => ∃ z : Int, i = .int .i64 z ∧ -1 ≤ z ∧ z < (K.length : Int) ∧ (∀ j : Nat, z < (j : Int) → j < K.length → hitK r o (kAt K j) = false) ∧ Below wh.heap.size wh wr) (fun i _ => (intOf i + 1).toNat)
 case atStart => exact ⟨_, rfl, by omega, by omega, fun j h1 h2 => by omega, Below.refl _ _⟩
 case round =>
  obtain ⟨z, rfl, hz0, hz1, hpre, hbr⟩ := hrel
  have HP := Lib.hid hpre
  have HBR := Lib.hid hbr
  have HBW := Lib.hid (HBZ.out _ hbr)
  have hd := HDC.out.below hbr
  have d1 := hd.c1
  have d0 := hd.c0
  have dl := hd.lt
  clear hpre hbr hd
  by_cases hz : 0 ≤ z
  ·
   obtain ⟨m, rfl⟩ : ∃ m : Nat, z = m := ⟨z.toNat, by omega⟩
   have hml : m < K.length := by omega
   obtain ⟨kb, ko, rfl, hkb, -, c0, c1, c2, c3, c4⟩ := (HKS.out.below HBW.out).case hml
   obtain ⟨x, hxd⟩ : ∃ x, x = kAt K m := ⟨_, rfl⟩
   have HXD := Lib.hid hxd
   rw [← hxd] at c0 c1 c2 c3 c4
   clear hxd
   cases hr : x.r.toList == r.toList with
   | false =>
    have HH := Lib.hid (show hitK r o (kAt K m) = false from by unfold hitK; rw [← HXD.out, show eqS x.r r = false from hr, Bool.false_and])
    go_wp2_with fail
    go_roundw
    case rel =>
     refine ⟨_, rfl, by omega, by omega, fun j h1 h2 => ?_, below_trans HBR.out (below_alloc _ _)⟩
     by_cases e : j = m
     ·
      subst e; exact HH.out
     ·
      exact HP.out j (by omega) h2
    case measure => simp [intOf] <;> omega
   | true =>
    have HR := Lib.hid hr
    cases ho : x.o.toList == o.toList with
    | false =>
     have HH := Lib.hid (show hitK r o (kAt K m) = false from by unfold hitK; rw [← HXD.out, show eqS x.o o = false from ho, Bool.and_false])
     go_wp2_with fail
     go_roundw
     case rel =>
      refine ⟨_, rfl, by omega, by omega, fun j h1 h2 => ?_, below_trans HBR.out (below_alloc _ _)⟩
      by_cases e : j = m
      ·
       subst e; exact HH.out
      ·
       exact HP.out j (by omega) h2
     case measure => simp [intOf] <;> omega
    | true =>
     have HF := Lib.hid (show K.reverse.find? (hitK r o) = some x from by rw [HXD.out]; exact find_rev hml (by unfold hitK; rw [← HXD.out, show eqS x.r r = true from HR.out, show eqS x.o o = true from ho]; rfl) (fun j h1 h2 => HP.out j (by omega) h2))
     go_wp2_with fail
     refine gen_calls fun w2 hw2 => ?_
     have HB2 := Lib.hid (show Below wr.heap.size wr w2 from by rw [hw2]; exact below_alloc _ _)
     clear hw2 c0 c1 c2 c3 c4
     have HBW2 := Lib.hid (below_trans HBW.out HB2.out)
     have HB2H := Lib.hid (below_trans HBR.out HB2.out)
     have hd2 := HDC.out.below HB2H.out
     clear d0 d1 dl
     have d0 := hd2.c0
     have dl := hd2.lt
     clear hd2
     refine ret_pure (refFind_any A C ca x.c w2 (HC.out.below HBW2.out) (by omega)) ?_
     rcases fnd_cases C x.c with ⟨hf, -⟩ | ⟨k, hf, hkl, -⟩
     ·
      have HRES := Lib.hid (show bstI K C r o C.length = refCh ⟨C, K⟩ r o from by unfold refCh; rw [HF.out]; simp only; rw [if_neg (by rw [hf]; omega)])
      rw [hf]
      clear hf
      have HW := Lib.hid (HB2H.out)
      have HDW0 := Lib.hid (HDC.out.below HW.out)
      go_wp2_with fail
      go_loopw [11, 10] (fun i q wq => ∃ j : Nat, j ≤ C.length ∧ i = .int .i64 j ∧ q = .int .i64 (bstI K C r o j) ∧ Below wh.heap.size wh wq) (fun i _ _ => C.length - (intOf i).toNat)
      case atStart => exact ⟨0, Nat.zero_le _, rfl, rfl, HW.out⟩
      case round =>
       obtain ⟨j, hj, rfl, rfl, hbq⟩ := hrel
       have HBQ := Lib.hid hbq
       have HBT := Lib.hid (HBZ.out _ hbq)
       have HDB := Lib.hid (HDC.out.below hbq)
       have d0 := HDB.out.c0
       have dl := HDB.out.lt
       clear hbq
       by_cases hlj : j < C.length
       ·
        obtain ⟨ab, ao, x, rfl, hab, -, x0, x1, x2, hx⟩ := (HC.out.below HBT.out).elem hlj
        have j0 : (0 : Int) ≤ (j : Int) := by omega
        have j1 : (j : Int) < (C.length : Int) := by omega
        have hal := HA.out j hlj
        have HX0 := Lib.hid (show wr.cell? ⟨ab, ao + j * 3, none⟩ = some (.int .i64 (cAt C j).id) from by rw [x0, hx.id])
        have LAB := Lib.hid hab
        go_wp2_with fail
        refine ret_below (can_any x (cAt C j) r o _ hx (by omega)) fun w5 hb5 => ?_
        have HB5 := Lib.hid hb5
        clear hx x0 x1 x2 d0 dl hb5
        cases hcan : canB (cAt C j) r o with
        | false =>
         have HN := Lib.hid (show bstI K C r o (j + 1) = bstI K C r o j from bst_no hcan)
         clear hcan
         generalize bstI K C r o j = q at *
         go_wp2_with fail
         go_roundw
         case rel => exact ⟨j + 1, by omega, by go_num, by rw [HN.out], below_trans HBQ.out HB5.out⟩
         case measure => simp [intOf] <;> omega
        | true =>
         have HCAN := Lib.hid hcan
         clear hcan
         rcases bst_bd K C r o j with hq | ⟨b, hq, hbj⟩
         ·
          have HN := Lib.hid (show bstI K C r o (j + 1) = (j : Int) from bst_first HCAN.out hq)
          rw [hq]
          clear hq
          go_wp2_with fail
          go_roundw
          case rel => exact ⟨j + 1, by omega, by go_num, by rw [HN.out], below_trans HBQ.out HB5.out⟩
          case measure => simp [intOf] <;> omega
         ·
          have HBE := Lib.hid hq
          rw [hq]
          clear hq
          have hbl : b < C.length := by omega
          obtain ⟨ab', ao', y, e', -, -, y0, -, -, hy⟩ := (HC.out.below HBT.out).elem hbl
          obtain ⟨rfl, rfl⟩ : ab = ab' ∧ ao = ao' := by injection e' with e'; injection e' with e1 e2; exact ⟨e1, e2⟩
          have XB0 := Lib.hid (show wr.cell? ⟨ab, ao + b * 3, none⟩ = some (.int .i64 (cAt C b).id) from by rw [y0, hy.id])
          clear e' y0 hy
          have b0 : ¬ (b : Int) < 0 := by omega
          have b1 : (0 : Int) ≤ (b : Int) := by omega
          have b2 : (b : Int) < (C.length : Int) := by omega
          have XJ := Lib.hid ((HB5.out.cell LAB.out).trans HX0.out)
          have XB := Lib.hid ((HB5.out.cell LAB.out).trans XB0.out)
          replace HDB := Lib.hid (HDB.out.below HB5.out)
          replace LAB := Lib.hid (Nat.lt_of_lt_of_le LAB.out HB5.out.size)
          have HBT5 := Lib.hid (below_trans HBT.out HB5.out)
          have HBQ5 := Lib.hid (below_trans HBQ.out HB5.out)
          have HDR5 := Lib.hid (show DeskR P w5 (.agg #[.slice (some ⟨ab, ao, none⟩) C.length ca, .slice (some ⟨kb, ko, none⟩) K.length cb]) ⟨C, K⟩ from ⟨_, _, _, _, rfl, HC.out.below HBT5.out, HKS.out.below HBT5.out⟩)
          have HUN := Lib.hid (fun (W : World) (hb : Below w5.heap.size w5 W) (id : Int) => refUnseen_any _ id ⟨C, K⟩ W (HDR5.out.below hb) (show K.length ≤ 10000 by omega))
          clear hab
          go_upto_region 16 with fail
          refine wp_region_J2 (GI (R := Bl) [Pr.eq (.agg #[.slice (some ⟨ab, ao, none⟩) C.length ca, .slice (some ⟨kb, ko, none⟩) K.length cb]), Pr.eq (.pointer (some ⟨bx, 0, none⟩)), Pr.eq (.slice (some ⟨ab, ao, none⟩) C.length ca), Pr.eq (.int .i64 (j : Int)), Pr.eq (.pointer (some ⟨ab, ao + j * 3, none⟩)), Pr.eq (.pointer (some ⟨ab, ao + j * 3, none⟩)), Pr.eq (.int .i64 (cAt C j).id), lenP (loadN K (cAt C j).id), Pr.eq (.int .i64 (loadN K (cAt C j).id : Int)), Pr.eq (.agg #[.slice (some ⟨ab, ao, none⟩) C.length ca, .slice (some ⟨kb, ko, none⟩) K.length cb]), Pr.eq (.pointer (some ⟨bx, 0, none⟩)), Pr.eq (.slice (some ⟨ab, ao, none⟩) C.length ca), Pr.eq (.int .i64 (b : Int)), Pr.eq (.pointer (some ⟨ab, ao + b * 3, none⟩)), Pr.eq (.pointer (some ⟨ab, ao + b * 3, none⟩)), Pr.eq (.int .i64 (cAt C b).id), lenP (loadN K (cAt C b).id), Pr.eq (.int .i64 (loadN K (cAt C b).id : Int)), Pr.eq (.int .i64 (loadN K (cAt C j).id : Int)), Pr.eq (.int .i64 (loadN K (cAt C b).id : Int))] (GrS w5)) (by kernel_rfl) (by kernel_rfl) (by kernel_rfl) ?_ ?_ ?_
          case refine_1 => exact fun V => GI.start (GrS.start _ _ _)
          case refine_2 =>
           refine .cons (fun V Ld a W hLi hpre hR hI KK hK => ?_) ?_
           ·
            have o3 := (hR.old 3 (by kernel_rfl)).trans (show _ = Value.pointer (some ⟨bx, 0, none⟩) from rfl)
            have hd := HDB.out.below hI.st.bl
            exact J_load rfl _ (.tmp 3) rfl (by rw [o3]; exact ld_desk hd) (hI.u0 hK rfl)
           refine .cons (fun V Ld a W hLi hpre hR hI KK hK => ?_) ?_
           ·
            have o3 := (hR.old 3 (by kernel_rfl)).trans (show _ = Value.pointer (some ⟨bx, 0, none⟩) from rfl)
            exact J_fieldAddr rfl _ (.tmp 3) 0 rfl (by rw [o3]; go_simp) (hI.u0 hK rfl)
           refine .cons (fun V Ld a W hLi hpre hR hI KK hK => ?_) ?_
           ·
            have f1 := hI.ef hR hpre 1 rfl rfl rfl (by kernel_rfl)
            have hd := HDB.out.below hI.st.bl
            have d0 := hd.c0
            exact J_load rfl _ (.tmp 75) rfl (by rw [f1]; go_simp) (hI.u0 hK rfl)
           refine .cons (fun V Ld a W hLi hpre hR hI KK hK => ?_) ?_
           ·
            have o11 := (hR.old 11 (by kernel_rfl)).trans (show _ = Value.int .i64 (j : Int) from rfl)
            exact G_move rfl (.tmp 11) rfl o11 (hI.u0 hK rfl)
           refine .cons (fun V Ld a W hLi hpre hR hI KK hK => ?_) ?_
           ·
            have f2 := hI.ef hR hpre 2 rfl rfl rfl (by kernel_rfl)
            have f3 := hI.ef hR hpre 3 rfl rfl rfl (by kernel_rfl)
            exact J_indexAddr rfl _ (.tmp 76) (.tmp 77) rfl (by rw [f2, f3]; go_simp <;> (intro h; omega)) (hI.u0 hK rfl)
           refine .cons (fun V Ld a W hLi hpre hR hI KK hK => ?_) ?_
           ·
            have f4 := hI.ef hR hpre 4 rfl rfl rfl (by kernel_rfl)
            exact J_fieldAddr rfl _ (.tmp 78) 0 rfl (by rw [f4]; go_simp) (hI.u0 hK rfl)
           refine .cons (fun V Ld a W hLi hpre hR hI KK hK => ?_) ?_
           ·
            have f5 := hI.ef hR hpre 5 rfl rfl rfl (by kernel_rfl)
            have x0 := (hI.st.bl.cell LAB.out).trans XJ.out
            exact J_load rfl _ (.tmp 79) rfl (by rw [f5]; go_simp) (hI.u0 hK rfl)
           refine .cons (fun V Ld a W hLi hpre hR hI KK hK => ?_) ?_
           ·
            have f0 := hI.ef hR hpre 0 rfl rfl rfl (by kernel_rfl)
            have f6 := hI.ef hR hpre 6 rfl rfl rfl (by kernel_rfl)
            refine J_call rfl _ _ _ rfl enter_runs (by simp only [List.map_toArray, List.map_cons, List.map_nil, f0, f6]) (HUN.out W hI.st.bl (cAt C j).id) ?_
            rintro e w' ⟨v, rfl, ho, hb⟩
            exact ⟨_, rfl, hK _ _ (hI.put (R := Bl) hb 7 rfl (lenP_of ho) (hI.st.to hb))⟩
           refine .cons (fun V Ld a W hLi hpre hR hI KK hK => ?_) ?_
           ·
            have p7 := pm hpre 7 (by kernel_rfl)
            obtain ⟨A7, c7, e7⟩ := hI.val 7 _ rfl p7
            have f7 := (hR.ev 7 rfl rfl p7).trans e7
            exact G_len rfl (.tmp 81) _ rfl (by rw [f7]; go_simp) (hI.u0 hK rfl)
           refine .cons (fun V Ld a W hLi hpre hR hI KK hK => ?_) ?_
           ·
            have o3 := (hR.old 3 (by kernel_rfl)).trans (show _ = Value.pointer (some ⟨bx, 0, none⟩) from rfl)
            have hd := HDB.out.below hI.st.bl
            exact J_load rfl _ (.tmp 3) rfl (by rw [o3]; exact ld_desk hd) (hI.u0 hK rfl)
           refine .cons (fun V Ld a W hLi hpre hR hI KK hK => ?_) ?_
           ·
            have o3 := (hR.old 3 (by kernel_rfl)).trans (show _ = Value.pointer (some ⟨bx, 0, none⟩) from rfl)
            exact J_fieldAddr rfl _ (.tmp 3) 0 rfl (by rw [o3]; go_simp) (hI.u0 hK rfl)
           refine .cons (fun V Ld a W hLi hpre hR hI KK hK => ?_) ?_
           ·
            have f10 := hI.ef hR hpre 10 rfl rfl rfl (by kernel_rfl)
            have hd := HDB.out.below hI.st.bl
            have d0 := hd.c0
            exact J_load rfl _ (.tmp 84) rfl (by rw [f10]; go_simp) (hI.u0 hK rfl)
           refine .cons (fun V Ld a W hLi hpre hR hI KK hK => ?_) ?_
           ·
            have o10 := (hR.old 10 (by kernel_rfl)).trans (show _ = Value.int .i64 (b : Int) from rfl)
            exact G_move rfl (.tmp 10) rfl o10 (hI.u0 hK rfl)
           refine .cons (fun V Ld a W hLi hpre hR hI KK hK => ?_) ?_
           ·
            have f11 := hI.ef hR hpre 11 rfl rfl rfl (by kernel_rfl)
            have f12 := hI.ef hR hpre 12 rfl rfl rfl (by kernel_rfl)
            exact J_indexAddr rfl _ (.tmp 85) (.tmp 86) rfl (by rw [f11, f12]; go_simp <;> (intro h; omega)) (hI.u0 hK rfl)
           refine .cons (fun V Ld a W hLi hpre hR hI KK hK => ?_) ?_
           ·
            have f13 := hI.ef hR hpre 13 rfl rfl rfl (by kernel_rfl)
            exact J_fieldAddr rfl _ (.tmp 87) 0 rfl (by rw [f13]; go_simp) (hI.u0 hK rfl)
           refine .cons (fun V Ld a W hLi hpre hR hI KK hK => ?_) ?_
           ·
            have f14 := hI.ef hR hpre 14 rfl rfl rfl (by kernel_rfl)
            have x0 := (hI.st.bl.cell LAB.out).trans XB.out
            exact J_load rfl _ (.tmp 88) rfl (by rw [f14]; go_simp) (hI.u0 hK rfl)
           refine .cons (fun V Ld a W hLi hpre hR hI KK hK => ?_) ?_
           ·
            have f9 := hI.ef hR hpre 9 rfl rfl rfl (by kernel_rfl)
            have f15 := hI.ef hR hpre 15 rfl rfl rfl (by kernel_rfl)
            refine J_call rfl _ _ _ rfl enter_runs (by simp only [List.map_toArray, List.map_cons, List.map_nil, f9, f15]) (HUN.out W hI.st.bl (cAt C b).id) ?_
            rintro e w' ⟨v, rfl, ho, hb⟩
            exact ⟨_, rfl, hK _ _ (hI.put (R := Bl) hb 16 rfl (lenP_of ho) (hI.st.to hb))⟩
           refine .cons (fun V Ld a W hLi hpre hR hI KK hK => ?_) ?_
           ·
            have p16 := pm hpre 16 (by kernel_rfl)
            obtain ⟨A16, c16, e16⟩ := hI.val 16 _ rfl p16
            have f16 := (hR.ev 16 rfl rfl p16).trans e16
            exact G_len rfl (.tmp 90) _ rfl (by rw [f16]; go_simp) (hI.u0 hK rfl)
           refine .cons (fun V Ld a W hLi hpre hR hI KK hK => ?_) ?_
           ·
            have f8 := hI.ef hR hpre 8 rfl rfl rfl (by kernel_rfl)
            exact G_assign rfl (.tmp 82) rfl f8 (hI.u0 hK rfl)
           refine .cons (fun V Ld a W hLi hpre hR hI KK hK => ?_) trivial
           ·
            have f17 := hI.ef hR hpre 17 rfl rfl rfl (by kernel_rfl)
            exact G_assign rfl (.tmp 91) rfl f17 (hI.u0 hK rfl)
          case refine_3 =>
           intro V Ld w9 hLd hI
           have e18 : V 18 = _ := hI.val 18 _ rfl (hLd 18 (by decide))
           have e19 : V 19 = _ := hI.val 19 _ rfl (hLd 19 (by decide))
           have hb9 := hI.st.bl
           clear hI hLd
           simp only [finL, putL, Act.put, Nat.reduceAdd]
           rw [e18, e19]
           clear e18 e19
           generalize V 0 = v0, V 1 = v1
           generalize V 2 = v2, V 3 = v3
           generalize V 4 = v4, V 5 = v5
           generalize V 6 = v6, V 7 = v7
           generalize V 8 = v8, V 9 = v9
           generalize V 10 = v10, V 11 = v11
           generalize V 12 = v12, V 13 = v13
           generalize V 14 = v14, V 15 = v15
           generalize V 16 = v16, V 17 = v17
           clear V
           simp only [List.setIfInBounds_toArray, List.set_cons_succ, List.set_cons_zero]
           have HBW9 := Lib.hid (below_trans HBQ5.out hb9)
           have HDW := Lib.hid (HDB.out.below hb9)
           have XJW := Lib.hid ((hb9.cell LAB.out).trans XJ.out)
           have XBW := Lib.hid ((hb9.cell LAB.out).trans XB.out)
           have LAW := Lib.hid (Nat.lt_of_lt_of_le LAB.out hb9.size)
           have HDR9 := Lib.hid (HDR5.out.below hb9)
           have HTO := Lib.hid (fun (W : World) (hb : Below w9.heap.size w9 W) (id : Int) => total_any _ id ⟨C, K⟩ W (HDR9.out.below hb) (show K.length ≤ 100000 by omega))
           clear hb9
           rcases Int.lt_trichotomy (loadN K (cAt C j).id : Int) (loadN K (cAt C b).id : Int) with hl | hl | hl
           ·
            have J1 := Lib.hid hl
            clear hl
            have HN := Lib.hid (show bstI K C r o (j + 1) = (j : Int) from bst_y HCAN.out HBE.out (bet_lt J1.out))
            go_upto_region 17 with fail
            refine wp_region_J2 (GI (R := Bl) [Pr.eq (.int .i64 ((loadN K (cAt C j).id : Int))), Pr.eq (.int .i64 ((loadN K (cAt C b).id : Int))), Pr.eq (.bool true), Pr.eq (.bool true), Pr.eq undef, Pr.eq undef, Pr.eq undef, Pr.eq undef, Pr.eq undef, Pr.eq undef, Pr.eq undef, Pr.eq undef, Pr.eq undef, Pr.eq undef, Pr.eq undef, Pr.eq undef, Pr.eq undef, Pr.eq undef, Pr.eq undef, Pr.eq undef, Pr.eq undef, Pr.eq undef, Pr.eq undef, Pr.eq undef, Pr.eq undef, Pr.eq undef, Pr.eq (.bool true)] (GrS w9)) (by kernel_rfl) (by kernel_rfl) (by kernel_rfl) ?_ ?_ ?_
            case refine_1 => exact fun V => GI.start (GrS.start _ _ _)
            case refine_2 =>
             refine .cons (fun V Ld a W hLi hpre hR hI KK hK => ?_) ?_
             ·
              have o12 := (hR.old 12 (by kernel_rfl)).trans (show _ = Value.int .i64 ((loadN K (cAt C j).id : Int)) from rfl)
              exact G_move rfl (.tmp 12) rfl o12 (hI.u0 hK rfl)
             refine .cons (fun V Ld a W hLi hpre hR hI KK hK => ?_) ?_
             ·
              have o13 := (hR.old 13 (by kernel_rfl)).trans (show _ = Value.int .i64 ((loadN K (cAt C b).id : Int)) from rfl)
              exact G_move rfl (.tmp 13) rfl o13 (hI.u0 hK rfl)
             refine .cons (fun V Ld a W hLi hpre hR hI KK hK => ?_) ?_
             ·
              have f0 := hI.ef hR hpre 0 rfl rfl rfl (by kernel_rfl)
              have f1 := hI.ef hR hpre 1 rfl rfl rfl (by kernel_rfl)
              exact J_binOp rfl .lss _ (.tmp 92) (.tmp 93) _ rfl (by rw [f0, f1]; exact bt_lss _ _ _ _ W J1.out) (hI.u0 hK rfl)
             refine .mf 2 rfl rfl rfl rfl rfl (by kernel_rfl) rfl ?_
             refine .un 3 rfl rfl rfl rfl (by kernel_rfl) rfl ?_
             refine .un 3 rfl rfl rfl rfl (by kernel_rfl) rfl ?_
             refine .un 3 rfl rfl rfl rfl (by kernel_rfl) rfl ?_
             refine .un 3 rfl rfl rfl rfl (by kernel_rfl) rfl ?_
             refine .unU 7 rfl rfl rfl rfl (by kernel_rfl) rfl ?_
             refine .unU 7 rfl rfl rfl rfl (by kernel_rfl) rfl ?_
             refine .unU 7 rfl rfl rfl rfl (by kernel_rfl) rfl ?_
             refine .unU 7 rfl rfl rfl rfl (by kernel_rfl) rfl ?_
             refine .unU 7 rfl rfl rfl rfl (by kernel_rfl) rfl ?_
             refine .unU 7 rfl rfl rfl rfl (by kernel_rfl) rfl ?_
             refine .unU 7 rfl rfl rfl rfl (by kernel_rfl) rfl ?_
             refine .unU 7 rfl rfl rfl rfl (by kernel_rfl) rfl ?_
             refine .unU 7 rfl rfl rfl rfl (by kernel_rfl) rfl ?_
             refine .unU 7 rfl rfl rfl rfl (by kernel_rfl) rfl ?_
             refine .unU 7 rfl rfl rfl rfl (by kernel_rfl) rfl ?_
             refine .unU 7 rfl rfl rfl rfl (by kernel_rfl) rfl ?_
             refine .unU 7 rfl rfl rfl rfl (by kernel_rfl) rfl ?_
             refine .unU 7 rfl rfl rfl rfl (by kernel_rfl) rfl ?_
             refine .unU 7 rfl rfl rfl rfl (by kernel_rfl) rfl ?_
             refine .unU 7 rfl rfl rfl rfl (by kernel_rfl) rfl ?_
             refine .unU 7 rfl rfl rfl rfl (by kernel_rfl) rfl ?_
             refine .un 3 rfl rfl rfl rfl (by kernel_rfl) rfl ?_
             refine .cons (fun V Ld a W hLi hpre hR hI KK hK => ?_) trivial
             ·
              have f3 := hI.ef hR hpre 3 rfl rfl rfl (by kernel_rfl)
              exact G_pick rfl (.tmp 95) (.const (.bool true)) (.tmp 117) rfl f3 (show _ = _ from rfl) (hI.u0 hK rfl)
            case refine_3 =>
             intro V Ld w9 hLd hI
             have e9 : V 26 = .bool true := hI.val 26 _ rfl (hLd 26 (by decide))
             have hb9 := hI.st.bl
             clear hI hLd
             simp only [finL, putL, Act.put, Nat.reduceAdd]
             rw [e9]
             clear e9
             generalize V 0 = v0, V 1 = v1
             generalize V 2 = v2, V 3 = v3
             generalize V 4 = v4, V 5 = v5
             generalize V 6 = v6, V 7 = v7
             generalize V 8 = v8, V 9 = v9
             generalize V 10 = v10, V 11 = v11
             generalize V 12 = v12, V 13 = v13
             generalize V 14 = v14, V 15 = v15
             generalize V 16 = v16, V 17 = v17
             generalize V 18 = v18, V 19 = v19
             generalize V 20 = v20, V 21 = v21
             generalize V 22 = v22, V 23 = v23
             generalize V 24 = v24, V 25 = v25
             clear V
             simp only [List.setIfInBounds_toArray, List.set_cons_succ, List.set_cons_zero]
             have HBF := Lib.hid (below_trans HBW9.out hb9)
             clear hb9
             go_wp2_with fail
             go_roundw
             case rel => exact ⟨j + 1, by omega, by go_num, by rw [HN.out], HBF.out⟩
             case measure => simp [intOf] <;> omega
           ·
            have J2 := Lib.hid (show ((loadN K (cAt C j).id : Int) == (loadN K (cAt C b).id : Int)) = true from by simpa using hl)
            have J1 := Lib.hid (show (loadN K (cAt C b).id : Int) ≤ (loadN K (cAt C j).id : Int) by omega)
            clear hl
            by_cases hc : (casN K (cAt C j).id : Int) < (casN K (cAt C b).id : Int)
            ·
             have J3 := Lib.hid hc
             clear hc
             have HN := Lib.hid (show bstI K C r o (j + 1) = (j : Int) from bst_y HCAN.out HBE.out (bet_e1 J2.out J3.out))
             go_upto_region 17 with fail
             refine wp_region_J2 (GI (R := Bl) [Pr.eq (.int .i64 ((loadN K (cAt C j).id : Int))), Pr.eq (.int .i64 ((loadN K (cAt C b).id : Int))), Pr.eq (.bool false), Pr.eq (.bool false), Pr.eq (.int .i64 ((loadN K (cAt C j).id : Int))), Pr.eq (.int .i64 ((loadN K (cAt C b).id : Int))), Pr.eq (.bool true), Pr.eq (.bool true), Pr.eq (.agg #[.slice (some ⟨ab, ao, none⟩) C.length ca, .slice (some ⟨kb, ko, none⟩) K.length cb]), Pr.eq (.pointer (some ⟨bx, 0, none⟩)), Pr.eq (.slice (some ⟨ab, ao, none⟩) C.length ca), Pr.eq (.int .i64 ((j : Int))), Pr.eq (.pointer (some ⟨ab, ao + j * 3, none⟩)), Pr.eq (.pointer (some ⟨ab, ao + j * 3, none⟩)), Pr.eq (.int .i64 ((cAt C j).id)), Pr.eq (.int .i64 ((casN K (cAt C j).id : Int))), Pr.eq (.agg #[.slice (some ⟨ab, ao, none⟩) C.length ca, .slice (some ⟨kb, ko, none⟩) K.length cb]), Pr.eq (.pointer (some ⟨bx, 0, none⟩)), Pr.eq (.slice (some ⟨ab, ao, none⟩) C.length ca), Pr.eq (.int .i64 ((b : Int))), Pr.eq (.pointer (some ⟨ab, ao + b * 3, none⟩)), Pr.eq (.pointer (some ⟨ab, ao + b * 3, none⟩)), Pr.eq (.int .i64 ((cAt C b).id)), Pr.eq (.int .i64 ((casN K (cAt C b).id : Int))), Pr.eq (.bool true), Pr.eq (.bool true), Pr.eq (.bool true)] (GrS w9)) (by kernel_rfl) (by kernel_rfl) (by kernel_rfl) ?_ ?_ ?_
             case refine_1 => exact fun V => GI.start (GrS.start _ _ _)
             case refine_2 =>
              refine .cons (fun V Ld a W hLi hpre hR hI KK hK => ?_) ?_
              ·
               have o12 := (hR.old 12 (by kernel_rfl)).trans (show _ = Value.int .i64 ((loadN K (cAt C j).id : Int)) from rfl)
               exact G_move rfl (.tmp 12) rfl o12 (hI.u0 hK rfl)
              refine .cons (fun V Ld a W hLi hpre hR hI KK hK => ?_) ?_
              ·
               have o13 := (hR.old 13 (by kernel_rfl)).trans (show _ = Value.int .i64 ((loadN K (cAt C b).id : Int)) from rfl)
               exact G_move rfl (.tmp 13) rfl o13 (hI.u0 hK rfl)
              refine .cons (fun V Ld a W hLi hpre hR hI KK hK => ?_) ?_
              ·
               have f0 := hI.ef hR hpre 0 rfl rfl rfl (by kernel_rfl)
               have f1 := hI.ef hR hpre 1 rfl rfl rfl (by kernel_rfl)
               exact J_binOp rfl .lss _ (.tmp 92) (.tmp 93) _ rfl (by rw [f0, f1]; exact bf_lss _ _ _ _ W J1.out) (hI.u0 hK rfl)
              refine .mf 2 rfl rfl rfl rfl rfl (by kernel_rfl) rfl ?_
              refine .cons (fun V Ld a W hLi hpre hR hI KK hK => ?_) ?_
              ·
               refine G_gw hI hR hpre 3 rfl rfl rfl rfl (by kernel_rfl) ?_
               have o12 := (hR.old 12 (by kernel_rfl)).trans (show _ = Value.int .i64 ((loadN K (cAt C j).id : Int)) from rfl)
               exact G_move rfl (.tmp 12) rfl o12 (hI.u0 hK rfl)
              refine .cons (fun V Ld a W hLi hpre hR hI KK hK => ?_) ?_
              ·
               refine G_gw hI hR hpre 3 rfl rfl rfl rfl (by kernel_rfl) ?_
               have o13 := (hR.old 13 (by kernel_rfl)).trans (show _ = Value.int .i64 ((loadN K (cAt C b).id : Int)) from rfl)
               exact G_move rfl (.tmp 13) rfl o13 (hI.u0 hK rfl)
              refine .cons (fun V Ld a W hLi hpre hR hI KK hK => ?_) ?_
              ·
               refine G_gw hI hR hpre 3 rfl rfl rfl rfl (by kernel_rfl) ?_
               have f4 := hI.ef hR hpre 4 rfl rfl rfl (by kernel_rfl)
               have f5 := hI.ef hR hpre 5 rfl rfl rfl (by kernel_rfl)
               exact J_binOp rfl .eql _ (.tmp 96) (.tmp 97) _ rfl (by rw [f4, f5]; exact bt_eql _ _ _ _ W J2.out) (hI.u0 hK rfl)
              refine .cons (fun V Ld a W hLi hpre hR hI KK hK => ?_) ?_
              ·
               refine G_gw hI hR hpre 3 rfl rfl rfl rfl (by kernel_rfl) ?_
               have f6 := hI.ef hR hpre 6 rfl rfl rfl (by kernel_rfl)
               exact G_move rfl (.tmp 98) rfl f6 (hI.u0 hK rfl)
              refine .cons (fun V Ld a W hLi hpre hR hI KK hK => ?_) ?_
              ·
               refine G_gw hI hR hpre 7 rfl rfl rfl rfl (by kernel_rfl) ?_
               have o3 := (hR.old 3 (by kernel_rfl)).trans (show _ = Value.pointer (some ⟨bx, 0, none⟩) from rfl)
               exact J_load rfl _ (.tmp 3) rfl (by rw [o3]; exact ld_desk (HDW.out.below hI.st.bl)) (hI.u0 hK rfl)
              refine .cons (fun V Ld a W hLi hpre hR hI KK hK => ?_) ?_
              ·
               refine G_gw hI hR hpre 7 rfl rfl rfl rfl (by kernel_rfl) ?_
               have o3 := (hR.old 3 (by kernel_rfl)).trans (show _ = Value.pointer (some ⟨bx, 0, none⟩) from rfl)
               exact J_fieldAddr rfl _ (.tmp 3) 0 rfl (by rw [o3]; go_simp) (hI.u0 hK rfl)
              refine .cons (fun V Ld a W hLi hpre hR hI KK hK => ?_) ?_
              ·
               refine G_gw hI hR hpre 7 rfl rfl rfl rfl (by kernel_rfl) ?_
               have f9 := hI.ef hR hpre 9 rfl rfl rfl (by kernel_rfl)
               have c := (HDW.out.below hI.st.bl).c0
               exact J_load rfl _ (.tmp 101) rfl (by rw [f9]; go_simp) (hI.u0 hK rfl)
              refine .cons (fun V Ld a W hLi hpre hR hI KK hK => ?_) ?_
              ·
               refine G_gw hI hR hpre 7 rfl rfl rfl rfl (by kernel_rfl) ?_
               have o11 := (hR.old 11 (by kernel_rfl)).trans (show _ = Value.int .i64 ((j : Int)) from rfl)
               exact G_move rfl (.tmp 11) rfl o11 (hI.u0 hK rfl)
              refine .cons (fun V Ld a W hLi hpre hR hI KK hK => ?_) ?_
              ·
               refine G_gw hI hR hpre 7 rfl rfl rfl rfl (by kernel_rfl) ?_
               have f10 := hI.ef hR hpre 10 rfl rfl rfl (by kernel_rfl)
               have f11 := hI.ef hR hpre 11 rfl rfl rfl (by kernel_rfl)
               exact J_indexAddr rfl _ (.tmp 102) (.tmp 103) rfl (by rw [f10, f11]; go_simp <;> (intro h; omega)) (hI.u0 hK rfl)
              refine .cons (fun V Ld a W hLi hpre hR hI KK hK => ?_) ?_
              ·
               refine G_gw hI hR hpre 7 rfl rfl rfl rfl (by kernel_rfl) ?_
               have f12 := hI.ef hR hpre 12 rfl rfl rfl (by kernel_rfl)
               exact J_fieldAddr rfl _ (.tmp 104) 0 rfl (by rw [f12]; go_simp) (hI.u0 hK rfl)
              refine .cons (fun V Ld a W hLi hpre hR hI KK hK => ?_) ?_
              ·
               refine G_gw hI hR hpre 7 rfl rfl rfl rfl (by kernel_rfl) ?_
               have f13 := hI.ef hR hpre 13 rfl rfl rfl (by kernel_rfl)
               have c := (hI.st.bl.cell LAW.out).trans XJW.out
               exact J_load rfl _ (.tmp 105) rfl (by rw [f13]; go_simp) (hI.u0 hK rfl)
              refine .cons (fun V Ld a W hLi hpre hR hI KK hK => ?_) ?_
              ·
               refine G_gw hI hR hpre 7 rfl rfl rfl rfl (by kernel_rfl) ?_
               have f8 := hI.ef hR hpre 8 rfl rfl rfl (by kernel_rfl)
               have f14 := hI.ef hR hpre 14 rfl rfl rfl (by kernel_rfl)
               refine J_call rfl _ _ _ rfl enter_tot (by simp only [List.map_toArray, List.map_cons, List.map_nil, f8, f14]) (HTO.out W hI.st.bl (cAt C j).id) ?_
               rintro e w' ⟨rfl, hb⟩
               exact ⟨_, rfl, hK _ _ (hI.put (R := Bl) hb 15 rfl rfl (hI.st.to hb))⟩
              refine .cons (fun V Ld a W hLi hpre hR hI KK hK => ?_) ?_
              ·
               refine G_gw hI hR hpre 7 rfl rfl rfl rfl (by kernel_rfl) ?_
               have o3 := (hR.old 3 (by kernel_rfl)).trans (show _ = Value.pointer (some ⟨bx, 0, none⟩) from rfl)
               exact J_load rfl _ (.tmp 3) rfl (by rw [o3]; exact ld_desk (HDW.out.below hI.st.bl)) (hI.u0 hK rfl)
              refine .cons (fun V Ld a W hLi hpre hR hI KK hK => ?_) ?_
              ·
               refine G_gw hI hR hpre 7 rfl rfl rfl rfl (by kernel_rfl) ?_
               have o3 := (hR.old 3 (by kernel_rfl)).trans (show _ = Value.pointer (some ⟨bx, 0, none⟩) from rfl)
               exact J_fieldAddr rfl _ (.tmp 3) 0 rfl (by rw [o3]; go_simp) (hI.u0 hK rfl)
              refine .cons (fun V Ld a W hLi hpre hR hI KK hK => ?_) ?_
              ·
               refine G_gw hI hR hpre 7 rfl rfl rfl rfl (by kernel_rfl) ?_
               have f17 := hI.ef hR hpre 17 rfl rfl rfl (by kernel_rfl)
               have c := (HDW.out.below hI.st.bl).c0
               exact J_load rfl _ (.tmp 109) rfl (by rw [f17]; go_simp) (hI.u0 hK rfl)
              refine .cons (fun V Ld a W hLi hpre hR hI KK hK => ?_) ?_
              ·
               refine G_gw hI hR hpre 7 rfl rfl rfl rfl (by kernel_rfl) ?_
               have o10 := (hR.old 10 (by kernel_rfl)).trans (show _ = Value.int .i64 ((b : Int)) from rfl)
               exact G_move rfl (.tmp 10) rfl o10 (hI.u0 hK rfl)
              refine .cons (fun V Ld a W hLi hpre hR hI KK hK => ?_) ?_
              ·
               refine G_gw hI hR hpre 7 rfl rfl rfl rfl (by kernel_rfl) ?_
               have f18 := hI.ef hR hpre 18 rfl rfl rfl (by kernel_rfl)
               have f19 := hI.ef hR hpre 19 rfl rfl rfl (by kernel_rfl)
               exact J_indexAddr rfl _ (.tmp 110) (.tmp 111) rfl (by rw [f18, f19]; go_simp <;> (intro h; omega)) (hI.u0 hK rfl)
              refine .cons (fun V Ld a W hLi hpre hR hI KK hK => ?_) ?_
              ·
               refine G_gw hI hR hpre 7 rfl rfl rfl rfl (by kernel_rfl) ?_
               have f20 := hI.ef hR hpre 20 rfl rfl rfl (by kernel_rfl)
               exact J_fieldAddr rfl _ (.tmp 112) 0 rfl (by rw [f20]; go_simp) (hI.u0 hK rfl)
              refine .cons (fun V Ld a W hLi hpre hR hI KK hK => ?_) ?_
              ·
               refine G_gw hI hR hpre 7 rfl rfl rfl rfl (by kernel_rfl) ?_
               have f21 := hI.ef hR hpre 21 rfl rfl rfl (by kernel_rfl)
               have c := (hI.st.bl.cell LAW.out).trans XBW.out
               exact J_load rfl _ (.tmp 113) rfl (by rw [f21]; go_simp) (hI.u0 hK rfl)
              refine .cons (fun V Ld a W hLi hpre hR hI KK hK => ?_) ?_
              ·
               refine G_gw hI hR hpre 7 rfl rfl rfl rfl (by kernel_rfl) ?_
               have f16 := hI.ef hR hpre 16 rfl rfl rfl (by kernel_rfl)
               have f22 := hI.ef hR hpre 22 rfl rfl rfl (by kernel_rfl)
               refine J_call rfl _ _ _ rfl enter_tot (by simp only [List.map_toArray, List.map_cons, List.map_nil, f16, f22]) (HTO.out W hI.st.bl (cAt C b).id) ?_
               rintro e w' ⟨rfl, hb⟩
               exact ⟨_, rfl, hK _ _ (hI.put (R := Bl) hb 23 rfl rfl (hI.st.to hb))⟩
              refine .cons (fun V Ld a W hLi hpre hR hI KK hK => ?_) ?_
              ·
               refine G_gw hI hR hpre 7 rfl rfl rfl rfl (by kernel_rfl) ?_
               have f15 := hI.ef hR hpre 15 rfl rfl rfl (by kernel_rfl)
               have f23 := hI.ef hR hpre 23 rfl rfl rfl (by kernel_rfl)
               exact J_binOp rfl .lss _ (.tmp 107) (.tmp 115) _ rfl (by rw [f15, f23]; exact bt_lss _ _ _ _ W J3.out) (hI.u0 hK rfl)
              refine .cons (fun V Ld a W hLi hpre hR hI KK hK => ?_) ?_
              ·
               refine G_gw hI hR hpre 3 rfl rfl rfl rfl (by kernel_rfl) ?_
               have f7 := hI.ef hR hpre 7 rfl rfl rfl (by kernel_rfl)
               have f24 := hI.ef hR hpre 24 rfl rfl rfl (by kernel_rfl)
               exact G_pick rfl (.tmp 99) (.tmp 116) (.const (.bool false)) rfl f7 (show _ = _ from f24) (hI.u0 hK rfl)
              refine .cons (fun V Ld a W hLi hpre hR hI KK hK => ?_) trivial
              ·
               have f3 := hI.ef hR hpre 3 rfl rfl rfl (by kernel_rfl)
               have f25 := hI.ef hR hpre 25 rfl rfl rfl (by kernel_rfl)
               exact G_pick rfl (.tmp 95) (.const (.bool true)) (.tmp 117) rfl f3 (show _ = _ from f25) (hI.u0 hK rfl)
             case refine_3 =>
              intro V Ld w9 hLd hI
              have e9 : V 26 = .bool true := hI.val 26 _ rfl (hLd 26 (by decide))
              have hb9 := hI.st.bl
              clear hI hLd
              simp only [finL, putL, Act.put, Nat.reduceAdd]
              rw [e9]
              clear e9
              generalize V 0 = v0, V 1 = v1
              generalize V 2 = v2, V 3 = v3
              generalize V 4 = v4, V 5 = v5
              generalize V 6 = v6, V 7 = v7
              generalize V 8 = v8, V 9 = v9
              generalize V 10 = v10, V 11 = v11
              generalize V 12 = v12, V 13 = v13
              generalize V 14 = v14, V 15 = v15
              generalize V 16 = v16, V 17 = v17
              generalize V 18 = v18, V 19 = v19
              generalize V 20 = v20, V 21 = v21
              generalize V 22 = v22, V 23 = v23
              generalize V 24 = v24, V 25 = v25
              clear V
              simp only [List.setIfInBounds_toArray, List.set_cons_succ, List.set_cons_zero]
              have HBF := Lib.hid (below_trans HBW9.out hb9)
              clear hb9
              go_wp2_with fail
              go_roundw
              case rel => exact ⟨j + 1, by omega, by go_num, by rw [HN.out], HBF.out⟩
              case measure => simp [intOf] <;> omega
            ·
             have J3 := Lib.hid (show (casN K (cAt C b).id : Int) ≤ (casN K (cAt C j).id : Int) by omega)
             clear hc
             have HN := Lib.hid (show bstI K C r o (j + 1) = (b : Int) from bst_n HCAN.out HBE.out (bet_e0 J2.out J3.out))
             go_upto_region 17 with fail
             refine wp_region_J2 (GI (R := Bl) [Pr.eq (.int .i64 ((loadN K (cAt C j).id : Int))), Pr.eq (.int .i64 ((loadN K (cAt C b).id : Int))), Pr.eq (.bool false), Pr.eq (.bool false), Pr.eq (.int .i64 ((loadN K (cAt C j).id : Int))), Pr.eq (.int .i64 ((loadN K (cAt C b).id : Int))), Pr.eq (.bool true), Pr.eq (.bool true), Pr.eq (.agg #[.slice (some ⟨ab, ao, none⟩) C.length ca, .slice (some ⟨kb, ko, none⟩) K.length cb]), Pr.eq (.pointer (some ⟨bx, 0, none⟩)), Pr.eq (.slice (some ⟨ab, ao, none⟩) C.length ca), Pr.eq (.int .i64 ((j : Int))), Pr.eq (.pointer (some ⟨ab, ao + j * 3, none⟩)), Pr.eq (.pointer (some ⟨ab, ao + j * 3, none⟩)), Pr.eq (.int .i64 ((cAt C j).id)), Pr.eq (.int .i64 ((casN K (cAt C j).id : Int))), Pr.eq (.agg #[.slice (some ⟨ab, ao, none⟩) C.length ca, .slice (some ⟨kb, ko, none⟩) K.length cb]), Pr.eq (.pointer (some ⟨bx, 0, none⟩)), Pr.eq (.slice (some ⟨ab, ao, none⟩) C.length ca), Pr.eq (.int .i64 ((b : Int))), Pr.eq (.pointer (some ⟨ab, ao + b * 3, none⟩)), Pr.eq (.pointer (some ⟨ab, ao + b * 3, none⟩)), Pr.eq (.int .i64 ((cAt C b).id)), Pr.eq (.int .i64 ((casN K (cAt C b).id : Int))), Pr.eq (.bool false), Pr.eq (.bool false), Pr.eq (.bool false)] (GrS w9)) (by kernel_rfl) (by kernel_rfl) (by kernel_rfl) ?_ ?_ ?_
             case refine_1 => exact fun V => GI.start (GrS.start _ _ _)
             case refine_2 =>
              refine .cons (fun V Ld a W hLi hpre hR hI KK hK => ?_) ?_
              ·
               have o12 := (hR.old 12 (by kernel_rfl)).trans (show _ = Value.int .i64 ((loadN K (cAt C j).id : Int)) from rfl)
               exact G_move rfl (.tmp 12) rfl o12 (hI.u0 hK rfl)
              refine .cons (fun V Ld a W hLi hpre hR hI KK hK => ?_) ?_
              ·
               have o13 := (hR.old 13 (by kernel_rfl)).trans (show _ = Value.int .i64 ((loadN K (cAt C b).id : Int)) from rfl)
               exact G_move rfl (.tmp 13) rfl o13 (hI.u0 hK rfl)
              refine .cons (fun V Ld a W hLi hpre hR hI KK hK => ?_) ?_
              ·
               have f0 := hI.ef hR hpre 0 rfl rfl rfl (by kernel_rfl)
               have f1 := hI.ef hR hpre 1 rfl rfl rfl (by kernel_rfl)
               exact J_binOp rfl .lss _ (.tmp 92) (.tmp 93) _ rfl (by rw [f0, f1]; exact bf_lss _ _ _ _ W J1.out) (hI.u0 hK rfl)
              refine .mf 2 rfl rfl rfl rfl rfl (by kernel_rfl) rfl ?_
              refine .cons (fun V Ld a W hLi hpre hR hI KK hK => ?_) ?_
              ·
               refine G_gw hI hR hpre 3 rfl rfl rfl rfl (by kernel_rfl) ?_
               have o12 := (hR.old 12 (by kernel_rfl)).trans (show _ = Value.int .i64 ((loadN K (cAt C j).id : Int)) from rfl)
               exact G_move rfl (.tmp 12) rfl o12 (hI.u0 hK rfl)
              refine .cons (fun V Ld a W hLi hpre hR hI KK hK => ?_) ?_
              ·
               refine G_gw hI hR hpre 3 rfl rfl rfl rfl (by kernel_rfl) ?_
               have o13 := (hR.old 13 (by kernel_rfl)).trans (show _ = Value.int .i64 ((loadN K (cAt C b).id : Int)) from rfl)
               exact G_move rfl (.tmp 13) rfl o13 (hI.u0 hK rfl)
              refine .cons (fun V Ld a W hLi hpre hR hI KK hK => ?_) ?_
              ·
               refine G_gw hI hR hpre 3 rfl rfl rfl rfl (by kernel_rfl) ?_
               have f4 := hI.ef hR hpre 4 rfl rfl rfl (by kernel_rfl)
               have f5 := hI.ef hR hpre 5 rfl rfl rfl (by kernel_rfl)
               exact J_binOp rfl .eql _ (.tmp 96) (.tmp 97) _ rfl (by rw [f4, f5]; exact bt_eql _ _ _ _ W J2.out) (hI.u0 hK rfl)
              refine .cons (fun V Ld a W hLi hpre hR hI KK hK => ?_) ?_
              ·
               refine G_gw hI hR hpre 3 rfl rfl rfl rfl (by kernel_rfl) ?_
               have f6 := hI.ef hR hpre 6 rfl rfl rfl (by kernel_rfl)
               exact G_move rfl (.tmp 98) rfl f6 (hI.u0 hK rfl)
              refine .cons (fun V Ld a W hLi hpre hR hI KK hK => ?_) ?_
              ·
               refine G_gw hI hR hpre 7 rfl rfl rfl rfl (by kernel_rfl) ?_
               have o3 := (hR.old 3 (by kernel_rfl)).trans (show _ = Value.pointer (some ⟨bx, 0, none⟩) from rfl)
               exact J_load rfl _ (.tmp 3) rfl (by rw [o3]; exact ld_desk (HDW.out.below hI.st.bl)) (hI.u0 hK rfl)
              refine .cons (fun V Ld a W hLi hpre hR hI KK hK => ?_) ?_
              ·
               refine G_gw hI hR hpre 7 rfl rfl rfl rfl (by kernel_rfl) ?_
               have o3 := (hR.old 3 (by kernel_rfl)).trans (show _ = Value.pointer (some ⟨bx, 0, none⟩) from rfl)
               exact J_fieldAddr rfl _ (.tmp 3) 0 rfl (by rw [o3]; go_simp) (hI.u0 hK rfl)
              refine .cons (fun V Ld a W hLi hpre hR hI KK hK => ?_) ?_
              ·
               refine G_gw hI hR hpre 7 rfl rfl rfl rfl (by kernel_rfl) ?_
               have f9 := hI.ef hR hpre 9 rfl rfl rfl (by kernel_rfl)
               have c := (HDW.out.below hI.st.bl).c0
               exact J_load rfl _ (.tmp 101) rfl (by rw [f9]; go_simp) (hI.u0 hK rfl)
              refine .cons (fun V Ld a W hLi hpre hR hI KK hK => ?_) ?_
              ·
               refine G_gw hI hR hpre 7 rfl rfl rfl rfl (by kernel_rfl) ?_
               have o11 := (hR.old 11 (by kernel_rfl)).trans (show _ = Value.int .i64 ((j : Int)) from rfl)
               exact G_move rfl (.tmp 11) rfl o11 (hI.u0 hK rfl)
              refine .cons (fun V Ld a W hLi hpre hR hI KK hK => ?_) ?_
              ·
               refine G_gw hI hR hpre 7 rfl rfl rfl rfl (by kernel_rfl) ?_
               have f10 := hI.ef hR hpre 10 rfl rfl rfl (by kernel_rfl)
               have f11 := hI.ef hR hpre 11 rfl rfl rfl (by kernel_rfl)
               exact J_indexAddr rfl _ (.tmp 102) (.tmp 103) rfl (by rw [f10, f11]; go_simp <;> (intro h; omega)) (hI.u0 hK rfl)
              refine .cons (fun V Ld a W hLi hpre hR hI KK hK => ?_) ?_
              ·
               refine G_gw hI hR hpre 7 rfl rfl rfl rfl (by kernel_rfl) ?_
               have f12 := hI.ef hR hpre 12 rfl rfl rfl (by kernel_rfl)
               exact J_fieldAddr rfl _ (.tmp 104) 0 rfl (by rw [f12]; go_simp) (hI.u0 hK rfl)
              refine .cons (fun V Ld a W hLi hpre hR hI KK hK => ?_) ?_
              ·
               refine G_gw hI hR hpre 7 rfl rfl rfl rfl (by kernel_rfl) ?_
               have f13 := hI.ef hR hpre 13 rfl rfl rfl (by kernel_rfl)
               have c := (hI.st.bl.cell LAW.out).trans XJW.out
               exact J_load rfl _ (.tmp 105) rfl (by rw [f13]; go_simp) (hI.u0 hK rfl)
              refine .cons (fun V Ld a W hLi hpre hR hI KK hK => ?_) ?_
              ·
               refine G_gw hI hR hpre 7 rfl rfl rfl rfl (by kernel_rfl) ?_
               have f8 := hI.ef hR hpre 8 rfl rfl rfl (by kernel_rfl)
               have f14 := hI.ef hR hpre 14 rfl rfl rfl (by kernel_rfl)
               refine J_call rfl _ _ _ rfl enter_tot (by simp only [List.map_toArray, List.map_cons, List.map_nil, f8, f14]) (HTO.out W hI.st.bl (cAt C j).id) ?_
               rintro e w' ⟨rfl, hb⟩
               exact ⟨_, rfl, hK _ _ (hI.put (R := Bl) hb 15 rfl rfl (hI.st.to hb))⟩
              refine .cons (fun V Ld a W hLi hpre hR hI KK hK => ?_) ?_
              ·
               refine G_gw hI hR hpre 7 rfl rfl rfl rfl (by kernel_rfl) ?_
               have o3 := (hR.old 3 (by kernel_rfl)).trans (show _ = Value.pointer (some ⟨bx, 0, none⟩) from rfl)
               exact J_load rfl _ (.tmp 3) rfl (by rw [o3]; exact ld_desk (HDW.out.below hI.st.bl)) (hI.u0 hK rfl)
              refine .cons (fun V Ld a W hLi hpre hR hI KK hK => ?_) ?_
              ·
               refine G_gw hI hR hpre 7 rfl rfl rfl rfl (by kernel_rfl) ?_
               have o3 := (hR.old 3 (by kernel_rfl)).trans (show _ = Value.pointer (some ⟨bx, 0, none⟩) from rfl)
               exact J_fieldAddr rfl _ (.tmp 3) 0 rfl (by rw [o3]; go_simp) (hI.u0 hK rfl)
              refine .cons (fun V Ld a W hLi hpre hR hI KK hK => ?_) ?_
              ·
               refine G_gw hI hR hpre 7 rfl rfl rfl rfl (by kernel_rfl) ?_
               have f17 := hI.ef hR hpre 17 rfl rfl rfl (by kernel_rfl)
               have c := (HDW.out.below hI.st.bl).c0
               exact J_load rfl _ (.tmp 109) rfl (by rw [f17]; go_simp) (hI.u0 hK rfl)
              refine .cons (fun V Ld a W hLi hpre hR hI KK hK => ?_) ?_
              ·
               refine G_gw hI hR hpre 7 rfl rfl rfl rfl (by kernel_rfl) ?_
               have o10 := (hR.old 10 (by kernel_rfl)).trans (show _ = Value.int .i64 ((b : Int)) from rfl)
               exact G_move rfl (.tmp 10) rfl o10 (hI.u0 hK rfl)
              refine .cons (fun V Ld a W hLi hpre hR hI KK hK => ?_) ?_
              ·
               refine G_gw hI hR hpre 7 rfl rfl rfl rfl (by kernel_rfl) ?_
               have f18 := hI.ef hR hpre 18 rfl rfl rfl (by kernel_rfl)
               have f19 := hI.ef hR hpre 19 rfl rfl rfl (by kernel_rfl)
               exact J_indexAddr rfl _ (.tmp 110) (.tmp 111) rfl (by rw [f18, f19]; go_simp <;> (intro h; omega)) (hI.u0 hK rfl)
              refine .cons (fun V Ld a W hLi hpre hR hI KK hK => ?_) ?_
              ·
               refine G_gw hI hR hpre 7 rfl rfl rfl rfl (by kernel_rfl) ?_
               have f20 := hI.ef hR hpre 20 rfl rfl rfl (by kernel_rfl)
               exact J_fieldAddr rfl _ (.tmp 112) 0 rfl (by rw [f20]; go_simp) (hI.u0 hK rfl)
              refine .cons (fun V Ld a W hLi hpre hR hI KK hK => ?_) ?_
              ·
               refine G_gw hI hR hpre 7 rfl rfl rfl rfl (by kernel_rfl) ?_
               have f21 := hI.ef hR hpre 21 rfl rfl rfl (by kernel_rfl)
               have c := (hI.st.bl.cell LAW.out).trans XBW.out
               exact J_load rfl _ (.tmp 113) rfl (by rw [f21]; go_simp) (hI.u0 hK rfl)
              refine .cons (fun V Ld a W hLi hpre hR hI KK hK => ?_) ?_
              ·
               refine G_gw hI hR hpre 7 rfl rfl rfl rfl (by kernel_rfl) ?_
               have f16 := hI.ef hR hpre 16 rfl rfl rfl (by kernel_rfl)
               have f22 := hI.ef hR hpre 22 rfl rfl rfl (by kernel_rfl)
               refine J_call rfl _ _ _ rfl enter_tot (by simp only [List.map_toArray, List.map_cons, List.map_nil, f16, f22]) (HTO.out W hI.st.bl (cAt C b).id) ?_
               rintro e w' ⟨rfl, hb⟩
               exact ⟨_, rfl, hK _ _ (hI.put (R := Bl) hb 23 rfl rfl (hI.st.to hb))⟩
              refine .cons (fun V Ld a W hLi hpre hR hI KK hK => ?_) ?_
              ·
               refine G_gw hI hR hpre 7 rfl rfl rfl rfl (by kernel_rfl) ?_
               have f15 := hI.ef hR hpre 15 rfl rfl rfl (by kernel_rfl)
               have f23 := hI.ef hR hpre 23 rfl rfl rfl (by kernel_rfl)
               exact J_binOp rfl .lss _ (.tmp 107) (.tmp 115) _ rfl (by rw [f15, f23]; exact bf_lss _ _ _ _ W J3.out) (hI.u0 hK rfl)
              refine .cons (fun V Ld a W hLi hpre hR hI KK hK => ?_) ?_
              ·
               refine G_gw hI hR hpre 3 rfl rfl rfl rfl (by kernel_rfl) ?_
               have f7 := hI.ef hR hpre 7 rfl rfl rfl (by kernel_rfl)
               have f24 := hI.ef hR hpre 24 rfl rfl rfl (by kernel_rfl)
               exact G_pick rfl (.tmp 99) (.tmp 116) (.const (.bool false)) rfl f7 (show _ = _ from f24) (hI.u0 hK rfl)
              refine .cons (fun V Ld a W hLi hpre hR hI KK hK => ?_) trivial
              ·
               have f3 := hI.ef hR hpre 3 rfl rfl rfl (by kernel_rfl)
               have f25 := hI.ef hR hpre 25 rfl rfl rfl (by kernel_rfl)
               exact G_pick rfl (.tmp 95) (.const (.bool true)) (.tmp 117) rfl f3 (show _ = _ from f25) (hI.u0 hK rfl)
             case refine_3 =>
              intro V Ld w9 hLd hI
              have e9 : V 26 = .bool false := hI.val 26 _ rfl (hLd 26 (by decide))
              have hb9 := hI.st.bl
              clear hI hLd
              simp only [finL, putL, Act.put, Nat.reduceAdd]
              rw [e9]
              clear e9
              generalize V 0 = v0, V 1 = v1
              generalize V 2 = v2, V 3 = v3
              generalize V 4 = v4, V 5 = v5
              generalize V 6 = v6, V 7 = v7
              generalize V 8 = v8, V 9 = v9
              generalize V 10 = v10, V 11 = v11
              generalize V 12 = v12, V 13 = v13
              generalize V 14 = v14, V 15 = v15
              generalize V 16 = v16, V 17 = v17
              generalize V 18 = v18, V 19 = v19
              generalize V 20 = v20, V 21 = v21
              generalize V 22 = v22, V 23 = v23
              generalize V 24 = v24, V 25 = v25
              clear V
              simp only [List.setIfInBounds_toArray, List.set_cons_succ, List.set_cons_zero]
              have HBF := Lib.hid (below_trans HBW9.out hb9)
              clear hb9
              go_wp2_with fail
              go_roundw
              case rel => exact ⟨j + 1, by omega, by go_num, by rw [HN.out], HBF.out⟩
              case measure => simp [intOf] <;> omega
           ·
            have J1 := Lib.hid (show (loadN K (cAt C b).id : Int) ≤ (loadN K (cAt C j).id : Int) by omega)
            have J2 := Lib.hid (show ((loadN K (cAt C j).id : Int) == (loadN K (cAt C b).id : Int)) = false from beq_eq_false_iff_ne.2 (by omega))
            clear hl
            have HN := Lib.hid (show bstI K C r o (j + 1) = (b : Int) from bst_n HCAN.out HBE.out (bet_gt J1.out J2.out))
            go_upto_region 17 with fail
            refine wp_region_J2 (GI (R := Bl) [Pr.eq (.int .i64 ((loadN K (cAt C j).id : Int))), Pr.eq (.int .i64 ((loadN K (cAt C b).id : Int))), Pr.eq (.bool false), Pr.eq (.bool false), Pr.eq (.int .i64 ((loadN K (cAt C j).id : Int))), Pr.eq (.int .i64 ((loadN K (cAt C b).id : Int))), Pr.eq (.bool false), Pr.eq (.bool false), Pr.eq undef, Pr.eq undef, Pr.eq undef, Pr.eq undef, Pr.eq undef, Pr.eq undef, Pr.eq undef, Pr.eq undef, Pr.eq undef, Pr.eq undef, Pr.eq undef, Pr.eq undef, Pr.eq undef, Pr.eq undef, Pr.eq undef, Pr.eq undef, Pr.eq undef, Pr.eq (.bool false), Pr.eq (.bool false)] (GrS w9)) (by kernel_rfl) (by kernel_rfl) (by kernel_rfl) ?_ ?_ ?_
            case refine_1 => exact fun V => GI.start (GrS.start _ _ _)
            case refine_2 =>
             refine .cons (fun V Ld a W hLi hpre hR hI KK hK => ?_) ?_
             ·
              have o12 := (hR.old 12 (by kernel_rfl)).trans (show _ = Value.int .i64 ((loadN K (cAt C j).id : Int)) from rfl)
              exact G_move rfl (.tmp 12) rfl o12 (hI.u0 hK rfl)
             refine .cons (fun V Ld a W hLi hpre hR hI KK hK => ?_) ?_
             ·
              have o13 := (hR.old 13 (by kernel_rfl)).trans (show _ = Value.int .i64 ((loadN K (cAt C b).id : Int)) from rfl)
              exact G_move rfl (.tmp 13) rfl o13 (hI.u0 hK rfl)
             refine .cons (fun V Ld a W hLi hpre hR hI KK hK => ?_) ?_
             ·
              have f0 := hI.ef hR hpre 0 rfl rfl rfl (by kernel_rfl)
              have f1 := hI.ef hR hpre 1 rfl rfl rfl (by kernel_rfl)
              exact J_binOp rfl .lss _ (.tmp 92) (.tmp 93) _ rfl (by rw [f0, f1]; exact bf_lss _ _ _ _ W J1.out) (hI.u0 hK rfl)
             refine .mf 2 rfl rfl rfl rfl rfl (by kernel_rfl) rfl ?_
             refine .cons (fun V Ld a W hLi hpre hR hI KK hK => ?_) ?_
             ·
              refine G_gw hI hR hpre 3 rfl rfl rfl rfl (by kernel_rfl) ?_
              have o12 := (hR.old 12 (by kernel_rfl)).trans (show _ = Value.int .i64 ((loadN K (cAt C j).id : Int)) from rfl)
              exact G_move rfl (.tmp 12) rfl o12 (hI.u0 hK rfl)
             refine .cons (fun V Ld a W hLi hpre hR hI KK hK => ?_) ?_
             ·
              refine G_gw hI hR hpre 3 rfl rfl rfl rfl (by kernel_rfl) ?_
              have o13 := (hR.old 13 (by kernel_rfl)).trans (show _ = Value.int .i64 ((loadN K (cAt C b).id : Int)) from rfl)
              exact G_move rfl (.tmp 13) rfl o13 (hI.u0 hK rfl)
             refine .cons (fun V Ld a W hLi hpre hR hI KK hK => ?_) ?_
             ·
              refine G_gw hI hR hpre 3 rfl rfl rfl rfl (by kernel_rfl) ?_
              have f4 := hI.ef hR hpre 4 rfl rfl rfl (by kernel_rfl)
              have f5 := hI.ef hR hpre 5 rfl rfl rfl (by kernel_rfl)
              exact J_binOp rfl .eql _ (.tmp 96) (.tmp 97) _ rfl (by rw [f4, f5]; exact bf_eql _ _ _ _ W J2.out) (hI.u0 hK rfl)
             refine .cons (fun V Ld a W hLi hpre hR hI KK hK => ?_) ?_
             ·
              refine G_gw hI hR hpre 3 rfl rfl rfl rfl (by kernel_rfl) ?_
              have f6 := hI.ef hR hpre 6 rfl rfl rfl (by kernel_rfl)
              exact G_move rfl (.tmp 98) rfl f6 (hI.u0 hK rfl)
             refine .un 7 rfl rfl rfl rfl (by kernel_rfl) rfl ?_
             refine .un 7 rfl rfl rfl rfl (by kernel_rfl) rfl ?_
             refine .un 7 rfl rfl rfl rfl (by kernel_rfl) rfl ?_
             refine .un 7 rfl rfl rfl rfl (by kernel_rfl) rfl ?_
             refine .un 7 rfl rfl rfl rfl (by kernel_rfl) rfl ?_
             refine .un 7 rfl rfl rfl rfl (by kernel_rfl) rfl ?_
             refine .un 7 rfl rfl rfl rfl (by kernel_rfl) rfl ?_
             refine .un 7 rfl rfl rfl rfl (by kernel_rfl) rfl ?_
             refine .un 7 rfl rfl rfl rfl (by kernel_rfl) rfl ?_
             refine .un 7 rfl rfl rfl rfl (by kernel_rfl) rfl ?_
             refine .un 7 rfl rfl rfl rfl (by kernel_rfl) rfl ?_
             refine .un 7 rfl rfl rfl rfl (by kernel_rfl) rfl ?_
             refine .un 7 rfl rfl rfl rfl (by kernel_rfl) rfl ?_
             refine .un 7 rfl rfl rfl rfl (by kernel_rfl) rfl ?_
             refine .un 7 rfl rfl rfl rfl (by kernel_rfl) rfl ?_
             refine .un 7 rfl rfl rfl rfl (by kernel_rfl) rfl ?_
             refine .un 7 rfl rfl rfl rfl (by kernel_rfl) rfl ?_
             refine .cons (fun V Ld a W hLi hpre hR hI KK hK => ?_) ?_
             ·
              refine G_gw hI hR hpre 3 rfl rfl rfl rfl (by kernel_rfl) ?_
              have f7 := hI.ef hR hpre 7 rfl rfl rfl (by kernel_rfl)
              exact G_pick rfl (.tmp 99) (.tmp 116) (.const (.bool false)) rfl f7 (show _ = _ from rfl) (hI.u0 hK rfl)
             refine .cons (fun V Ld a W hLi hpre hR hI KK hK => ?_) trivial
             ·
              have f3 := hI.ef hR hpre 3 rfl rfl rfl (by kernel_rfl)
              have f25 := hI.ef hR hpre 25 rfl rfl rfl (by kernel_rfl)
              exact G_pick rfl (.tmp 95) (.const (.bool true)) (.tmp 117) rfl f3 (show _ = _ from f25) (hI.u0 hK rfl)
            case refine_3 =>
             intro V Ld w9 hLd hI
             have e9 : V 26 = .bool false := hI.val 26 _ rfl (hLd 26 (by decide))
             have hb9 := hI.st.bl
             clear hI hLd
             simp only [finL, putL, Act.put, Nat.reduceAdd]
             rw [e9]
             clear e9
             generalize V 0 = v0, V 1 = v1
             generalize V 2 = v2, V 3 = v3
             generalize V 4 = v4, V 5 = v5
             generalize V 6 = v6, V 7 = v7
             generalize V 8 = v8, V 9 = v9
             generalize V 10 = v10, V 11 = v11
             generalize V 12 = v12, V 13 = v13
             generalize V 14 = v14, V 15 = v15
             generalize V 16 = v16, V 17 = v17
             generalize V 18 = v18, V 19 = v19
             generalize V 20 = v20, V 21 = v21
             generalize V 22 = v22, V 23 = v23
             generalize V 24 = v24, V 25 = v25
             clear V
             simp only [List.setIfInBounds_toArray, List.set_cons_succ, List.set_cons_zero]
             have HBF := Lib.hid (below_trans HBW9.out hb9)
             clear hb9
             go_wp2_with fail
             go_roundw
             case rel => exact ⟨j + 1, by omega, by go_num, by rw [HN.out], HBF.out⟩
             case measure => simp [intOf] <;> omega
       ·
        obtain rfl : C.length = j := by omega
        have j1 : ¬ (C.length : Int) < (C.length : Int) := by omega
        have HV := Lib.hid HRES.out
        generalize bstI K C r o C.length = q at *
        go_wp2_with fail
        go_ret
        exact RetB.int HV.out HBT.out
     ·
      have HFK := Lib.hid hf
      have k0 : (0 : Int) ≤ (k : Int) := by omega
      have k1 : (k : Int) < (C.length : Int) := by omega
      rw [hf]
      clear hf
      obtain ⟨ab, ao, y, rfl, hab0, -, y0, y1, y2, hy⟩ := (HC.out.below HBW2.out).elem hkl
      go_wp2_with fail
      have hal := HA.out k hkl
      refine ret_below (can_any y (cAt C k) r o w2 hy (by omega)) fun w3 hb3 => ?_
      have HB3 := Lib.hid (below_trans HB2H.out hb3)
      have HBW3 := Lib.hid (below_trans HBW2.out hb3)
      clear hy y0 y1 y2 hb3 hab0
      cases hcan : canB (cAt C k) r o with
      | true =>
       have HV := Lib.hid (show (k : Int) = refCh ⟨C, K⟩ r o from by unfold refCh; rw [HF.out]; simp only; rw [HFK.out, if_pos ⟨by omega, by rw [Int.toNat_natCast]; exact hcan⟩])
       clear hcan
       go_wp2_with fail
       go_ret
       exact RetB.int HV.out HBW3.out
      | false =>
       have HRES := Lib.hid (show bstI K C r o C.length = refCh ⟨C, K⟩ r o from by unfold refCh; rw [HF.out]; simp only; rw [HFK.out, if_neg (by rw [Int.toNat_natCast, hcan]; simp)])
       clear hcan d0 dl
       have HW := Lib.hid (HB3.out)
       have HDW0 := Lib.hid (HDC.out.below HW.out)
       go_wp2_with fail
       go_loopw [11, 10] (fun i q wq => ∃ j : Nat, j ≤ C.length ∧ i = .int .i64 j ∧ q = .int .i64 (bstI K C r o j) ∧ Below wh.heap.size wh wq) (fun i _ _ => C.length - (intOf i).toNat)
       case atStart => exact ⟨0, Nat.zero_le _, rfl, rfl, HW.out⟩
       case round =>
        obtain ⟨j, hj, rfl, rfl, hbq⟩ := hrel
        have HBQ := Lib.hid hbq
        have HBT := Lib.hid (HBZ.out _ hbq)
        have HDB := Lib.hid (HDC.out.below hbq)
        have d0 := HDB.out.c0
        have dl := HDB.out.lt
        clear hbq
        by_cases hlj : j < C.length
        ·
         obtain ⟨ab', ao', x, e', hab, -, x0, x1, x2, hx⟩ := (HC.out.below HBT.out).elem hlj
         obtain ⟨rfl, rfl⟩ : ab = ab' ∧ ao = ao' := by injection e' with e'; injection e' with e1 e2; exact ⟨e1, e2⟩
         clear e'
         have j0 : (0 : Int) ≤ (j : Int) := by omega
         have j1 : (j : Int) < (C.length : Int) := by omega
         have hal := HA.out j hlj
         have HX0 := Lib.hid (show wr.cell? ⟨ab, ao + j * 3, none⟩ = some (.int .i64 (cAt C j).id) from by rw [x0, hx.id])
         have LAB := Lib.hid hab
         go_wp2_with fail
         refine ret_below (can_any x (cAt C j) r o _ hx (by omega)) fun w5 hb5 => ?_
         have HB5 := Lib.hid hb5
         clear hx x0 x1 x2 d0 dl hb5
         cases hcan : canB (cAt C j) r o with
         | false =>
          have HN := Lib.hid (show bstI K C r o (j + 1) = bstI K C r o j from bst_no hcan)
          clear hcan
          generalize bstI K C r o j = q at *
          go_wp2_with fail
          go_roundw
          case rel => exact ⟨j + 1, by omega, by go_num, by rw [HN.out], below_trans HBQ.out HB5.out⟩
          case measure => simp [intOf] <;> omega
         | true =>
          have HCAN := Lib.hid hcan
          clear hcan
          rcases bst_bd K C r o j with hq | ⟨b, hq, hbj⟩
          ·
           have HN := Lib.hid (show bstI K C r o (j + 1) = (j : Int) from bst_first HCAN.out hq)
           rw [hq]
           clear hq
           go_wp2_with fail
           go_roundw
           case rel => exact ⟨j + 1, by omega, by go_num, by rw [HN.out], below_trans HBQ.out HB5.out⟩
           case measure => simp [intOf] <;> omega
          ·
           have HBE := Lib.hid hq
           rw [hq]
           clear hq
           have hbl : b < C.length := by omega
           obtain ⟨ab', ao', y, e', -, -, y0, -, -, hy⟩ := (HC.out.below HBT.out).elem hbl
           obtain ⟨rfl, rfl⟩ : ab = ab' ∧ ao = ao' := by injection e' with e'; injection e' with e1 e2; exact ⟨e1, e2⟩
           have XB0 := Lib.hid (show wr.cell? ⟨ab, ao + b * 3, none⟩ = some (.int .i64 (cAt C b).id) from by rw [y0, hy.id])
           clear e' y0 hy
           have b0 : ¬ (b : Int) < 0 := by omega
           have b1 : (0 : Int) ≤ (b : Int) := by omega
           have b2 : (b : Int) < (C.length : Int) := by omega
           have XJ := Lib.hid ((HB5.out.cell LAB.out).trans HX0.out)
           have XB := Lib.hid ((HB5.out.cell LAB.out).trans XB0.out)
           replace HDB := Lib.hid (HDB.out.below HB5.out)
           replace LAB := Lib.hid (Nat.lt_of_lt_of_le LAB.out HB5.out.size)
           have HBT5 := Lib.hid (below_trans HBT.out HB5.out)
           have HBQ5 := Lib.hid (below_trans HBQ.out HB5.out)
           have HDR5 := Lib.hid (show DeskR P w5 (.agg #[.slice (some ⟨ab, ao, none⟩) C.length ca, .slice (some ⟨kb, ko, none⟩) K.length cb]) ⟨C, K⟩ from ⟨_, _, _, _, rfl, HC.out.below HBT5.out, HKS.out.below HBT5.out⟩)
           have HUN := Lib.hid (fun (W : World) (hb : Below w5.heap.size w5 W) (id : Int) => refUnseen_any _ id ⟨C, K⟩ W (HDR5.out.below hb) (show K.length ≤ 10000 by omega))
           clear hab
           go_upto_region 16 with fail
           refine wp_region_J2 (GI (R := Bl) [Pr.eq (.agg #[.slice (some ⟨ab, ao, none⟩) C.length ca, .slice (some ⟨kb, ko, none⟩) K.length cb]), Pr.eq (.pointer (some ⟨bx, 0, none⟩)), Pr.eq (.slice (some ⟨ab, ao, none⟩) C.length ca), Pr.eq (.int .i64 (j : Int)), Pr.eq (.pointer (some ⟨ab, ao + j * 3, none⟩)), Pr.eq (.pointer (some ⟨ab, ao + j * 3, none⟩)), Pr.eq (.int .i64 (cAt C j).id), lenP (loadN K (cAt C j).id), Pr.eq (.int .i64 (loadN K (cAt C j).id : Int)), Pr.eq (.agg #[.slice (some ⟨ab, ao, none⟩) C.length ca, .slice (some ⟨kb, ko, none⟩) K.length cb]), Pr.eq (.pointer (some ⟨bx, 0, none⟩)), Pr.eq (.slice (some ⟨ab, ao, none⟩) C.length ca), Pr.eq (.int .i64 (b : Int)), Pr.eq (.pointer (some ⟨ab, ao + b * 3, none⟩)), Pr.eq (.pointer (some ⟨ab, ao + b * 3, none⟩)), Pr.eq (.int .i64 (cAt C b).id), lenP (loadN K (cAt C b).id), Pr.eq (.int .i64 (loadN K (cAt C b).id : Int)), Pr.eq (.int .i64 (loadN K (cAt C j).id : Int)), Pr.eq (.int .i64 (loadN K (cAt C b).id : Int))] (GrS w5)) (by kernel_rfl) (by kernel_rfl) (by kernel_rfl) ?_ ?_ ?_
           case refine_1 => exact fun V => GI.start (GrS.start _ _ _)
           case refine_2 =>
            refine .cons (fun V Ld a W hLi hpre hR hI KK hK => ?_) ?_
            ·
             have o3 := (hR.old 3 (by kernel_rfl)).trans (show _ = Value.pointer (some ⟨bx, 0, none⟩) from rfl)
             have hd := HDB.out.below hI.st.bl
             exact J_load rfl _ (.tmp 3) rfl (by rw [o3]; exact ld_desk hd) (hI.u0 hK rfl)
            refine .cons (fun V Ld a W hLi hpre hR hI KK hK => ?_) ?_
            ·
             have o3 := (hR.old 3 (by kernel_rfl)).trans (show _ = Value.pointer (some ⟨bx, 0, none⟩) from rfl)
             exact J_fieldAddr rfl _ (.tmp 3) 0 rfl (by rw [o3]; go_simp) (hI.u0 hK rfl)
            refine .cons (fun V Ld a W hLi hpre hR hI KK hK => ?_) ?_
            ·
             have f1 := hI.ef hR hpre 1 rfl rfl rfl (by kernel_rfl)
             have hd := HDB.out.below hI.st.bl
             have d0 := hd.c0
             exact J_load rfl _ (.tmp 75) rfl (by rw [f1]; go_simp) (hI.u0 hK rfl)
            refine .cons (fun V Ld a W hLi hpre hR hI KK hK => ?_) ?_
            ·
             have o11 := (hR.old 11 (by kernel_rfl)).trans (show _ = Value.int .i64 (j : Int) from rfl)
             exact G_move rfl (.tmp 11) rfl o11 (hI.u0 hK rfl)
            refine .cons (fun V Ld a W hLi hpre hR hI KK hK => ?_) ?_
            ·
             have f2 := hI.ef hR hpre 2 rfl rfl rfl (by kernel_rfl)
             have f3 := hI.ef hR hpre 3 rfl rfl rfl (by kernel_rfl)
             exact J_indexAddr rfl _ (.tmp 76) (.tmp 77) rfl (by rw [f2, f3]; go_simp <;> (intro h; omega)) (hI.u0 hK rfl)
            refine .cons (fun V Ld a W hLi hpre hR hI KK hK => ?_) ?_
            ·
             have f4 := hI.ef hR hpre 4 rfl rfl rfl (by kernel_rfl)
             exact J_fieldAddr rfl _ (.tmp 78) 0 rfl (by rw [f4]; go_simp) (hI.u0 hK rfl)
            refine .cons (fun V Ld a W hLi hpre hR hI KK hK => ?_) ?_
            ·
             have f5 := hI.ef hR hpre 5 rfl rfl rfl (by kernel_rfl)
             have x0 := (hI.st.bl.cell LAB.out).trans XJ.out
             exact J_load rfl _ (.tmp 79) rfl (by rw [f5]; go_simp) (hI.u0 hK rfl)
            refine .cons (fun V Ld a W hLi hpre hR hI KK hK => ?_) ?_
            ·
             have f0 := hI.ef hR hpre 0 rfl rfl rfl (by kernel_rfl)
             have f6 := hI.ef hR hpre 6 rfl rfl rfl (by kernel_rfl)
             refine J_call rfl _ _ _ rfl enter_runs (by simp only [List.map_toArray, List.map_cons, List.map_nil, f0, f6]) (HUN.out W hI.st.bl (cAt C j).id) ?_
             rintro e w' ⟨v, rfl, ho, hb⟩
             exact ⟨_, rfl, hK _ _ (hI.put (R := Bl) hb 7 rfl (lenP_of ho) (hI.st.to hb))⟩
            refine .cons (fun V Ld a W hLi hpre hR hI KK hK => ?_) ?_
            ·
             have p7 := pm hpre 7 (by kernel_rfl)
             obtain ⟨A7, c7, e7⟩ := hI.val 7 _ rfl p7
             have f7 := (hR.ev 7 rfl rfl p7).trans e7
             exact G_len rfl (.tmp 81) _ rfl (by rw [f7]; go_simp) (hI.u0 hK rfl)
            refine .cons (fun V Ld a W hLi hpre hR hI KK hK => ?_) ?_
            ·
             have o3 := (hR.old 3 (by kernel_rfl)).trans (show _ = Value.pointer (some ⟨bx, 0, none⟩) from rfl)
             have hd := HDB.out.below hI.st.bl
             exact J_load rfl _ (.tmp 3) rfl (by rw [o3]; exact ld_desk hd) (hI.u0 hK rfl)
            refine .cons (fun V Ld a W hLi hpre hR hI KK hK => ?_) ?_
            ·
             have o3 := (hR.old 3 (by kernel_rfl)).trans (show _ = Value.pointer (some ⟨bx, 0, none⟩) from rfl)
             exact J_fieldAddr rfl _ (.tmp 3) 0 rfl (by rw [o3]; go_simp) (hI.u0 hK rfl)
            refine .cons (fun V Ld a W hLi hpre hR hI KK hK => ?_) ?_
            ·
             have f10 := hI.ef hR hpre 10 rfl rfl rfl (by kernel_rfl)
             have hd := HDB.out.below hI.st.bl
             have d0 := hd.c0
             exact J_load rfl _ (.tmp 84) rfl (by rw [f10]; go_simp) (hI.u0 hK rfl)
            refine .cons (fun V Ld a W hLi hpre hR hI KK hK => ?_) ?_
            ·
             have o10 := (hR.old 10 (by kernel_rfl)).trans (show _ = Value.int .i64 (b : Int) from rfl)
             exact G_move rfl (.tmp 10) rfl o10 (hI.u0 hK rfl)
            refine .cons (fun V Ld a W hLi hpre hR hI KK hK => ?_) ?_
            ·
             have f11 := hI.ef hR hpre 11 rfl rfl rfl (by kernel_rfl)
             have f12 := hI.ef hR hpre 12 rfl rfl rfl (by kernel_rfl)
             exact J_indexAddr rfl _ (.tmp 85) (.tmp 86) rfl (by rw [f11, f12]; go_simp <;> (intro h; omega)) (hI.u0 hK rfl)
            refine .cons (fun V Ld a W hLi hpre hR hI KK hK => ?_) ?_
            ·
             have f13 := hI.ef hR hpre 13 rfl rfl rfl (by kernel_rfl)
             exact J_fieldAddr rfl _ (.tmp 87) 0 rfl (by rw [f13]; go_simp) (hI.u0 hK rfl)
            refine .cons (fun V Ld a W hLi hpre hR hI KK hK => ?_) ?_
            ·
             have f14 := hI.ef hR hpre 14 rfl rfl rfl (by kernel_rfl)
             have x0 := (hI.st.bl.cell LAB.out).trans XB.out
             exact J_load rfl _ (.tmp 88) rfl (by rw [f14]; go_simp) (hI.u0 hK rfl)
            refine .cons (fun V Ld a W hLi hpre hR hI KK hK => ?_) ?_
            ·
             have f9 := hI.ef hR hpre 9 rfl rfl rfl (by kernel_rfl)
             have f15 := hI.ef hR hpre 15 rfl rfl rfl (by kernel_rfl)
             refine J_call rfl _ _ _ rfl enter_runs (by simp only [List.map_toArray, List.map_cons, List.map_nil, f9, f15]) (HUN.out W hI.st.bl (cAt C b).id) ?_
             rintro e w' ⟨v, rfl, ho, hb⟩
             exact ⟨_, rfl, hK _ _ (hI.put (R := Bl) hb 16 rfl (lenP_of ho) (hI.st.to hb))⟩
            refine .cons (fun V Ld a W hLi hpre hR hI KK hK => ?_) ?_
            ·
             have p16 := pm hpre 16 (by kernel_rfl)
             obtain ⟨A16, c16, e16⟩ := hI.val 16 _ rfl p16
             have f16 := (hR.ev 16 rfl rfl p16).trans e16
             exact G_len rfl (.tmp 90) _ rfl (by rw [f16]; go_simp) (hI.u0 hK rfl)
            refine .cons (fun V Ld a W hLi hpre hR hI KK hK => ?_) ?_
            ·
             have f8 := hI.ef hR hpre 8 rfl rfl rfl (by kernel_rfl)
             exact G_assign rfl (.tmp 82) rfl f8 (hI.u0 hK rfl)
            refine .cons (fun V Ld a W hLi hpre hR hI KK hK => ?_) trivial
            ·
             have f17 := hI.ef hR hpre 17 rfl rfl rfl (by kernel_rfl)
             exact G_assign rfl (.tmp 91) rfl f17 (hI.u0 hK rfl)
           case refine_3 =>
            intro V Ld w9 hLd hI
            have e18 : V 18 = _ := hI.val 18 _ rfl (hLd 18 (by decide))
            have e19 : V 19 = _ := hI.val 19 _ rfl (hLd 19 (by decide))
            have hb9 := hI.st.bl
            clear hI hLd
            simp only [finL, putL, Act.put, Nat.reduceAdd]
            rw [e18, e19]
            clear e18 e19
            generalize V 0 = v0, V 1 = v1
            generalize V 2 = v2, V 3 = v3
            generalize V 4 = v4, V 5 = v5
            generalize V 6 = v6, V 7 = v7
            generalize V 8 = v8, V 9 = v9
            generalize V 10 = v10, V 11 = v11
            generalize V 12 = v12, V 13 = v13
            generalize V 14 = v14, V 15 = v15
            generalize V 16 = v16, V 17 = v17
            clear V
            simp only [List.setIfInBounds_toArray, List.set_cons_succ, List.set_cons_zero]
            have HBW9 := Lib.hid (below_trans HBQ5.out hb9)
            have HDW := Lib.hid (HDB.out.below hb9)
            have XJW := Lib.hid ((hb9.cell LAB.out).trans XJ.out)
            have XBW := Lib.hid ((hb9.cell LAB.out).trans XB.out)
            have LAW := Lib.hid (Nat.lt_of_lt_of_le LAB.out hb9.size)
            have HDR9 := Lib.hid (HDR5.out.below hb9)
            have HTO := Lib.hid (fun (W : World) (hb : Below w9.heap.size w9 W) (id : Int) => total_any _ id ⟨C, K⟩ W (HDR9.out.below hb) (show K.length ≤ 100000 by omega))
            clear hb9
            rcases Int.lt_trichotomy (loadN K (cAt C j).id : Int) (loadN K (cAt C b).id : Int) with hl | hl | hl
            ·
             have J1 := Lib.hid hl
             clear hl
             have HN := Lib.hid (show bstI K C r o (j + 1) = (j : Int) from bst_y HCAN.out HBE.out (bet_lt J1.out))
             go_upto_region 17 with fail
             refine wp_region_J2 (GI (R := Bl) [Pr.eq (.int .i64 ((loadN K (cAt C j).id : Int))), Pr.eq (.int .i64 ((loadN K (cAt C b).id : Int))), Pr.eq (.bool true), Pr.eq (.bool true), Pr.eq undef, Pr.eq undef, Pr.eq undef, Pr.eq undef, Pr.eq undef, Pr.eq undef, Pr.eq undef, Pr.eq undef, Pr.eq undef, Pr.eq undef, Pr.eq undef, Pr.eq undef, Pr.eq undef, Pr.eq undef, Pr.eq undef, Pr.eq undef, Pr.eq undef, Pr.eq undef, Pr.eq undef, Pr.eq undef, Pr.eq undef, Pr.eq undef, Pr.eq (.bool true)] (GrS w9)) (by kernel_rfl) (by kernel_rfl) (by kernel_rfl) ?_ ?_ ?_
             case refine_1 => exact fun V => GI.start (GrS.start _ _ _)
             case refine_2 =>
              refine .cons (fun V Ld a W hLi hpre hR hI KK hK => ?_) ?_
              ·
               have o12 := (hR.old 12 (by kernel_rfl)).trans (show _ = Value.int .i64 ((loadN K (cAt C j).id : Int)) from rfl)
               exact G_move rfl (.tmp 12) rfl o12 (hI.u0 hK rfl)
              refine .cons (fun V Ld a W hLi hpre hR hI KK hK => ?_) ?_
              ·
               have o13 := (hR.old 13 (by kernel_rfl)).trans (show _ = Value.int .i64 ((loadN K (cAt C b).id : Int)) from rfl)
               exact G_move rfl (.tmp 13) rfl o13 (hI.u0 hK rfl)
              refine .cons (fun V Ld a W hLi hpre hR hI KK hK => ?_) ?_
              ·
               have f0 := hI.ef hR hpre 0 rfl rfl rfl (by kernel_rfl)
               have f1 := hI.ef hR hpre 1 rfl rfl rfl (by kernel_rfl)
               exact J_binOp rfl .lss _ (.tmp 92) (.tmp 93) _ rfl (by rw [f0, f1]; exact bt_lss _ _ _ _ W J1.out) (hI.u0 hK rfl)
              refine .mf 2 rfl rfl rfl rfl rfl (by kernel_rfl) rfl ?_
              refine .un 3 rfl rfl rfl rfl (by kernel_rfl) rfl ?_
              refine .un 3 rfl rfl rfl rfl (by kernel_rfl) rfl ?_
              refine .un 3 rfl rfl rfl rfl (by kernel_rfl) rfl ?_
              refine .un 3 rfl rfl rfl rfl (by kernel_rfl) rfl ?_
              refine .unU 7 rfl rfl rfl rfl (by kernel_rfl) rfl ?_
              refine .unU 7 rfl rfl rfl rfl (by kernel_rfl) rfl ?_
              refine .unU 7 rfl rfl rfl rfl (by kernel_rfl) rfl ?_
              refine .unU 7 rfl rfl rfl rfl (by kernel_rfl) rfl ?_
              refine .unU 7 rfl rfl rfl rfl (by kernel_rfl) rfl ?_
              refine .unU 7 rfl rfl rfl rfl (by kernel_rfl) rfl ?_
              refine .unU 7 rfl rfl rfl rfl (by kernel_rfl) rfl ?_
              refine .unU 7 rfl rfl rfl rfl (by kernel_rfl) rfl ?_
              refine .unU 7 rfl rfl rfl rfl (by kernel_rfl) rfl ?_
              refine .unU 7 rfl rfl rfl rfl (by kernel_rfl) rfl ?_
              refine .unU 7 rfl rfl rfl rfl (by kernel_rfl) rfl ?_
              refine .unU 7 rfl rfl rfl rfl (by kernel_rfl) rfl ?_
              refine .unU 7 rfl rfl rfl rfl (by kernel_rfl) rfl ?_
              refine .unU 7 rfl rfl rfl rfl (by kernel_rfl) rfl ?_
              refine .unU 7 rfl rfl rfl rfl (by kernel_rfl) rfl ?_
              refine .unU 7 rfl rfl rfl rfl (by kernel_rfl) rfl ?_
              refine .unU 7 rfl rfl rfl rfl (by kernel_rfl) rfl ?_
              refine .un 3 rfl rfl rfl rfl (by kernel_rfl) rfl ?_
              refine .cons (fun V Ld a W hLi hpre hR hI KK hK => ?_) trivial
              ·
               have f3 := hI.ef hR hpre 3 rfl rfl rfl (by kernel_rfl)
               exact G_pick rfl (.tmp 95) (.const (.bool true)) (.tmp 117) rfl f3 (show _ = _ from rfl) (hI.u0 hK rfl)
             case refine_3 =>
              intro V Ld w9 hLd hI
              have e9 : V 26 = .bool true := hI.val 26 _ rfl (hLd 26 (by decide))
              have hb9 := hI.st.bl
              clear hI hLd
              simp only [finL, putL, Act.put, Nat.reduceAdd]
              rw [e9]
              clear e9
              generalize V 0 = v0, V 1 = v1
              generalize V 2 = v2, V 3 = v3
              generalize V 4 = v4, V 5 = v5
              generalize V 6 = v6, V 7 = v7
              generalize V 8 = v8, V 9 = v9
              generalize V 10 = v10, V 11 = v11
              generalize V 12 = v12, V 13 = v13
              generalize V 14 = v14, V 15 = v15
              generalize V 16 = v16, V 17 = v17
              generalize V 18 = v18, V 19 = v19
              generalize V 20 = v20, V 21 = v21
              generalize V 22 = v22, V 23 = v23
              generalize V 24 = v24, V 25 = v25
              clear V
              simp only [List.setIfInBounds_toArray, List.set_cons_succ, List.set_cons_zero]
              have HBF := Lib.hid (below_trans HBW9.out hb9)
              clear hb9
              go_wp2_with fail
              go_roundw
              case rel => exact ⟨j + 1, by omega, by go_num, by rw [HN.out], HBF.out⟩
              case measure => simp [intOf] <;> omega
            ·
             have J2 := Lib.hid (show ((loadN K (cAt C j).id : Int) == (loadN K (cAt C b).id : Int)) = true from by simpa using hl)
             have J1 := Lib.hid (show (loadN K (cAt C b).id : Int) ≤ (loadN K (cAt C j).id : Int) by omega)
             clear hl
             by_cases hc : (casN K (cAt C j).id : Int) < (casN K (cAt C b).id : Int)
             ·
              have J3 := Lib.hid hc
              clear hc
              have HN := Lib.hid (show bstI K C r o (j + 1) = (j : Int) from bst_y HCAN.out HBE.out (bet_e1 J2.out J3.out))
              go_upto_region 17 with fail
              refine wp_region_J2 (GI (R := Bl) [Pr.eq (.int .i64 ((loadN K (cAt C j).id : Int))), Pr.eq (.int .i64 ((loadN K (cAt C b).id : Int))), Pr.eq (.bool false), Pr.eq (.bool false), Pr.eq (.int .i64 ((loadN K (cAt C j).id : Int))), Pr.eq (.int .i64 ((loadN K (cAt C b).id : Int))), Pr.eq (.bool true), Pr.eq (.bool true), Pr.eq (.agg #[.slice (some ⟨ab, ao, none⟩) C.length ca, .slice (some ⟨kb, ko, none⟩) K.length cb]), Pr.eq (.pointer (some ⟨bx, 0, none⟩)), Pr.eq (.slice (some ⟨ab, ao, none⟩) C.length ca), Pr.eq (.int .i64 ((j : Int))), Pr.eq (.pointer (some ⟨ab, ao + j * 3, none⟩)), Pr.eq (.pointer (some ⟨ab, ao + j * 3, none⟩)), Pr.eq (.int .i64 ((cAt C j).id)), Pr.eq (.int .i64 ((casN K (cAt C j).id : Int))), Pr.eq (.agg #[.slice (some ⟨ab, ao, none⟩) C.length ca, .slice (some ⟨kb, ko, none⟩) K.length cb]), Pr.eq (.pointer (some ⟨bx, 0, none⟩)), Pr.eq (.slice (some ⟨ab, ao, none⟩) C.length ca), Pr.eq (.int .i64 ((b : Int))), Pr.eq (.pointer (some ⟨ab, ao + b * 3, none⟩)), Pr.eq (.pointer (some ⟨ab, ao + b * 3, none⟩)), Pr.eq (.int .i64 ((cAt C b).id)), Pr.eq (.int .i64 ((casN K (cAt C b).id : Int))), Pr.eq (.bool true), Pr.eq (.bool true), Pr.eq (.bool true)] (GrS w9)) (by kernel_rfl) (by kernel_rfl) (by kernel_rfl) ?_ ?_ ?_
              case refine_1 => exact fun V => GI.start (GrS.start _ _ _)
              case refine_2 =>
               refine .cons (fun V Ld a W hLi hpre hR hI KK hK => ?_) ?_
               ·
                have o12 := (hR.old 12 (by kernel_rfl)).trans (show _ = Value.int .i64 ((loadN K (cAt C j).id : Int)) from rfl)
                exact G_move rfl (.tmp 12) rfl o12 (hI.u0 hK rfl)
               refine .cons (fun V Ld a W hLi hpre hR hI KK hK => ?_) ?_
               ·
                have o13 := (hR.old 13 (by kernel_rfl)).trans (show _ = Value.int .i64 ((loadN K (cAt C b).id : Int)) from rfl)
                exact G_move rfl (.tmp 13) rfl o13 (hI.u0 hK rfl)
               refine .cons (fun V Ld a W hLi hpre hR hI KK hK => ?_) ?_
               ·
                have f0 := hI.ef hR hpre 0 rfl rfl rfl (by kernel_rfl)
                have f1 := hI.ef hR hpre 1 rfl rfl rfl (by kernel_rfl)
                exact J_binOp rfl .lss _ (.tmp 92) (.tmp 93) _ rfl (by rw [f0, f1]; exact bf_lss _ _ _ _ W J1.out) (hI.u0 hK rfl)
               refine .mf 2 rfl rfl rfl rfl rfl (by kernel_rfl) rfl ?_
               refine .cons (fun V Ld a W hLi hpre hR hI KK hK => ?_) ?_
               ·
                refine G_gw hI hR hpre 3 rfl rfl rfl rfl (by kernel_rfl) ?_
                have o12 := (hR.old 12 (by kernel_rfl)).trans (show _ = Value.int .i64 ((loadN K (cAt C j).id : Int)) from rfl)
                exact G_move rfl (.tmp 12) rfl o12 (hI.u0 hK rfl)
               refine .cons (fun V Ld a W hLi hpre hR hI KK hK => ?_) ?_
               ·
                refine G_gw hI hR hpre 3 rfl rfl rfl rfl (by kernel_rfl) ?_
                have o13 := (hR.old 13 (by kernel_rfl)).trans (show _ = Value.int .i64 ((loadN K (cAt C b).id : Int)) from rfl)
                exact G_move rfl (.tmp 13) rfl o13 (hI.u0 hK rfl)
               refine .cons (fun V Ld a W hLi hpre hR hI KK hK => ?_) ?_
               ·
                refine G_gw hI hR hpre 3 rfl rfl rfl rfl (by kernel_rfl) ?_
                have f4 := hI.ef hR hpre 4 rfl rfl rfl (by kernel_rfl)
                have f5 := hI.ef hR hpre 5 rfl rfl rfl (by kernel_rfl)
                exact J_binOp rfl .eql _ (.tmp 96) (.tmp 97) _ rfl (by rw [f4, f5]; exact bt_eql _ _ _ _ W J2.out) (hI.u0 hK rfl)
               refine .cons (fun V Ld a W hLi hpre hR hI KK hK => ?_) ?_
               ·
                refine G_gw hI hR hpre 3 rfl rfl rfl rfl (by kernel_rfl) ?_
                have f6 := hI.ef hR hpre 6 rfl rfl rfl (by kernel_rfl)
                exact G_move rfl (.tmp 98) rfl f6 (hI.u0 hK rfl)
               refine .cons (fun V Ld a W hLi hpre hR hI KK hK => ?_) ?_
               ·
                refine G_gw hI hR hpre 7 rfl rfl rfl rfl (by kernel_rfl) ?_
                have o3 := (hR.old 3 (by kernel_rfl)).trans (show _ = Value.pointer (some ⟨bx, 0, none⟩) from rfl)
                exact J_load rfl _ (.tmp 3) rfl (by rw [o3]; exact ld_desk (HDW.out.below hI.st.bl)) (hI.u0 hK rfl)
               refine .cons (fun V Ld a W hLi hpre hR hI KK hK => ?_) ?_
               ·
                refine G_gw hI hR hpre 7 rfl rfl rfl rfl (by kernel_rfl) ?_
                have o3 := (hR.old 3 (by kernel_rfl)).trans (show _ = Value.pointer (some ⟨bx, 0, none⟩) from rfl)
                exact J_fieldAddr rfl _ (.tmp 3) 0 rfl (by rw [o3]; go_simp) (hI.u0 hK rfl)
               refine .cons (fun V Ld a W hLi hpre hR hI KK hK => ?_) ?_
               ·
                refine G_gw hI hR hpre 7 rfl rfl rfl rfl (by kernel_rfl) ?_
                have f9 := hI.ef hR hpre 9 rfl rfl rfl (by kernel_rfl)
                have c := (HDW.out.below hI.st.bl).c0
                exact J_load rfl _ (.tmp 101) rfl (by rw [f9]; go_simp) (hI.u0 hK rfl)
               refine .cons (fun V Ld a W hLi hpre hR hI KK hK => ?_) ?_
               ·
                refine G_gw hI hR hpre 7 rfl rfl rfl rfl (by kernel_rfl) ?_
                have o11 := (hR.old 11 (by kernel_rfl)).trans (show _ = Value.int .i64 ((j : Int)) from rfl)
                exact G_move rfl (.tmp 11) rfl o11 (hI.u0 hK rfl)
               refine .cons (fun V Ld a W hLi hpre hR hI KK hK => ?_) ?_
               ·
                refine G_gw hI hR hpre 7 rfl rfl rfl rfl (by kernel_rfl) ?_
                have f10 := hI.ef hR hpre 10 rfl rfl rfl (by kernel_rfl)
                have f11 := hI.ef hR hpre 11 rfl rfl rfl (by kernel_rfl)
                exact J_indexAddr rfl _ (.tmp 102) (.tmp 103) rfl (by rw [f10, f11]; go_simp <;> (intro h; omega)) (hI.u0 hK rfl)
               refine .cons (fun V Ld a W hLi hpre hR hI KK hK => ?_) ?_
               ·
                refine G_gw hI hR hpre 7 rfl rfl rfl rfl (by kernel_rfl) ?_
                have f12 := hI.ef hR hpre 12 rfl rfl rfl (by kernel_rfl)
                exact J_fieldAddr rfl _ (.tmp 104) 0 rfl (by rw [f12]; go_simp) (hI.u0 hK rfl)
               refine .cons (fun V Ld a W hLi hpre hR hI KK hK => ?_) ?_
               ·
                refine G_gw hI hR hpre 7 rfl rfl rfl rfl (by kernel_rfl) ?_
                have f13 := hI.ef hR hpre 13 rfl rfl rfl (by kernel_rfl)
                have c := (hI.st.bl.cell LAW.out).trans XJW.out
                exact J_load rfl _ (.tmp 105) rfl (by rw [f13]; go_simp) (hI.u0 hK rfl)
               refine .cons (fun V Ld a W hLi hpre hR hI KK hK => ?_) ?_
               ·
                refine G_gw hI hR hpre 7 rfl rfl rfl rfl (by kernel_rfl) ?_
                have f8 := hI.ef hR hpre 8 rfl rfl rfl (by kernel_rfl)
                have f14 := hI.ef hR hpre 14 rfl rfl rfl (by kernel_rfl)
                refine J_call rfl _ _ _ rfl enter_tot (by simp only [List.map_toArray, List.map_cons, List.map_nil, f8, f14]) (HTO.out W hI.st.bl (cAt C j).id) ?_
                rintro e w' ⟨rfl, hb⟩
                exact ⟨_, rfl, hK _ _ (hI.put (R := Bl) hb 15 rfl rfl (hI.st.to hb))⟩
               refine .cons (fun V Ld a W hLi hpre hR hI KK hK => ?_) ?_
               ·
                refine G_gw hI hR hpre 7 rfl rfl rfl rfl (by kernel_rfl) ?_
                have o3 := (hR.old 3 (by kernel_rfl)).trans (show _ = Value.pointer (some ⟨bx, 0, none⟩) from rfl)
                exact J_load rfl _ (.tmp 3) rfl (by rw [o3]; exact ld_desk (HDW.out.below hI.st.bl)) (hI.u0 hK rfl)
               refine .cons (fun V Ld a W hLi hpre hR hI KK hK => ?_) ?_
               ·
                refine G_gw hI hR hpre 7 rfl rfl rfl rfl (by kernel_rfl) ?_
                have o3 := (hR.old 3 (by kernel_rfl)).trans (show _ = Value.pointer (some ⟨bx, 0, none⟩) from rfl)
                exact J_fieldAddr rfl _ (.tmp 3) 0 rfl (by rw [o3]; go_simp) (hI.u0 hK rfl)
               refine .cons (fun V Ld a W hLi hpre hR hI KK hK => ?_) ?_
               ·
                refine G_gw hI hR hpre 7 rfl rfl rfl rfl (by kernel_rfl) ?_
                have f17 := hI.ef hR hpre 17 rfl rfl rfl (by kernel_rfl)
                have c := (HDW.out.below hI.st.bl).c0
                exact J_load rfl _ (.tmp 109) rfl (by rw [f17]; go_simp) (hI.u0 hK rfl)
               refine .cons (fun V Ld a W hLi hpre hR hI KK hK => ?_) ?_
               ·
                refine G_gw hI hR hpre 7 rfl rfl rfl rfl (by kernel_rfl) ?_
                have o10 := (hR.old 10 (by kernel_rfl)).trans (show _ = Value.int .i64 ((b : Int)) from rfl)
                exact G_move rfl (.tmp 10) rfl o10 (hI.u0 hK rfl)
               refine .cons (fun V Ld a W hLi hpre hR hI KK hK => ?_) ?_
               ·
                refine G_gw hI hR hpre 7 rfl rfl rfl rfl (by kernel_rfl) ?_
                have f18 := hI.ef hR hpre 18 rfl rfl rfl (by kernel_rfl)
                have f19 := hI.ef hR hpre 19 rfl rfl rfl (by kernel_rfl)
                exact J_indexAddr rfl _ (.tmp 110) (.tmp 111) rfl (by rw [f18, f19]; go_simp <;> (intro h; omega)) (hI.u0 hK rfl)
               refine .cons (fun V Ld a W hLi hpre hR hI KK hK => ?_) ?_
               ·
                refine G_gw hI hR hpre 7 rfl rfl rfl rfl (by kernel_rfl) ?_
                have f20 := hI.ef hR hpre 20 rfl rfl rfl (by kernel_rfl)
                exact J_fieldAddr rfl _ (.tmp 112) 0 rfl (by rw [f20]; go_simp) (hI.u0 hK rfl)
               refine .cons (fun V Ld a W hLi hpre hR hI KK hK => ?_) ?_
               ·
                refine G_gw hI hR hpre 7 rfl rfl rfl rfl (by kernel_rfl) ?_
                have f21 := hI.ef hR hpre 21 rfl rfl rfl (by kernel_rfl)
                have c := (hI.st.bl.cell LAW.out).trans XBW.out
                exact J_load rfl _ (.tmp 113) rfl (by rw [f21]; go_simp) (hI.u0 hK rfl)
               refine .cons (fun V Ld a W hLi hpre hR hI KK hK => ?_) ?_
               ·
                refine G_gw hI hR hpre 7 rfl rfl rfl rfl (by kernel_rfl) ?_
                have f16 := hI.ef hR hpre 16 rfl rfl rfl (by kernel_rfl)
                have f22 := hI.ef hR hpre 22 rfl rfl rfl (by kernel_rfl)
                refine J_call rfl _ _ _ rfl enter_tot (by simp only [List.map_toArray, List.map_cons, List.map_nil, f16, f22]) (HTO.out W hI.st.bl (cAt C b).id) ?_
                rintro e w' ⟨rfl, hb⟩
                exact ⟨_, rfl, hK _ _ (hI.put (R := Bl) hb 23 rfl rfl (hI.st.to hb))⟩
               refine .cons (fun V Ld a W hLi hpre hR hI KK hK => ?_) ?_
               ·
                refine G_gw hI hR hpre 7 rfl rfl rfl rfl (by kernel_rfl) ?_
                have f15 := hI.ef hR hpre 15 rfl rfl rfl (by kernel_rfl)
                have f23 := hI.ef hR hpre 23 rfl rfl rfl (by kernel_rfl)
                exact J_binOp rfl .lss _ (.tmp 107) (.tmp 115) _ rfl (by rw [f15, f23]; exact bt_lss _ _ _ _ W J3.out) (hI.u0 hK rfl)
               refine .cons (fun V Ld a W hLi hpre hR hI KK hK => ?_) ?_
               ·
                refine G_gw hI hR hpre 3 rfl rfl rfl rfl (by kernel_rfl) ?_
                have f7 := hI.ef hR hpre 7 rfl rfl rfl (by kernel_rfl)
                have f24 := hI.ef hR hpre 24 rfl rfl rfl (by kernel_rfl)
                exact G_pick rfl (.tmp 99) (.tmp 116) (.const (.bool false)) rfl f7 (show _ = _ from f24) (hI.u0 hK rfl)
               refine .cons (fun V Ld a W hLi hpre hR hI KK hK => ?_) trivial
               ·
                have f3 := hI.ef hR hpre 3 rfl rfl rfl (by kernel_rfl)
                have f25 := hI.ef hR hpre 25 rfl rfl rfl (by kernel_rfl)
                exact G_pick rfl (.tmp 95) (.const (.bool true)) (.tmp 117) rfl f3 (show _ = _ from f25) (hI.u0 hK rfl)
              case refine_3 =>
               intro V Ld w9 hLd hI
               have e9 : V 26 = .bool true := hI.val 26 _ rfl (hLd 26 (by decide))
               have hb9 := hI.st.bl
               clear hI hLd
               simp only [finL, putL, Act.put, Nat.reduceAdd]
               rw [e9]
               clear e9
               generalize V 0 = v0, V 1 = v1
               generalize V 2 = v2, V 3 = v3
               generalize V 4 = v4, V 5 = v5
               generalize V 6 = v6, V 7 = v7
               generalize V 8 = v8, V 9 = v9
               generalize V 10 = v10, V 11 = v11
               generalize V 12 = v12, V 13 = v13
               generalize V 14 = v14, V 15 = v15
               generalize V 16 = v16, V 17 = v17
               generalize V 18 = v18, V 19 = v19
               generalize V 20 = v20, V 21 = v21
               generalize V 22 = v22, V 23 = v23
               generalize V 24 = v24, V 25 = v25
               clear V
               simp only [List.setIfInBounds_toArray, List.set_cons_succ, List.set_cons_zero]
               have HBF := Lib.hid (below_trans HBW9.out hb9)
               clear hb9
               go_wp2_with fail
               go_roundw
               case rel => exact ⟨j + 1, by omega, by go_num, by rw [HN.out], HBF.out⟩
               case measure => simp [intOf] <;> omega
             ·
              have J3 := Lib.hid (show (casN K (cAt C b).id : Int) ≤ (casN K (cAt C j).id : Int) by omega)
              clear hc
              have HN := Lib.hid (show bstI K C r o (j + 1) = (b : Int) from bst_n HCAN.out HBE.out (bet_e0 J2.out J3.out))
              go_upto_region 17 with fail
              refine wp_region_J2 (GI (R := Bl) [Pr.eq (.int .i64 ((loadN K (cAt C j).id : Int))), Pr.eq (.int .i64 ((loadN K (cAt C b).id : Int))), Pr.eq (.bool false), Pr.eq (.bool false), Pr.eq (.int .i64 ((loadN K (cAt C j).id : Int))), Pr.eq (.int .i64 ((loadN K (cAt C b).id : Int))), Pr.eq (.bool true), Pr.eq (.bool true), Pr.eq (.agg #[.slice (some ⟨ab, ao, none⟩) C.length ca, .slice (some ⟨kb, ko, none⟩) K.length cb]), Pr.eq (.pointer (some ⟨bx, 0, none⟩)), Pr.eq (.slice (some ⟨ab, ao, none⟩) C.length ca), Pr.eq (.int .i64 ((j : Int))), Pr.eq (.pointer (some ⟨ab, ao + j * 3, none⟩)), Pr.eq (.pointer (some ⟨ab, ao + j * 3, none⟩)), Pr.eq (.int .i64 ((cAt C j).id)), Pr.eq (.int .i64 ((casN K (cAt C j).id : Int))), Pr.eq (.agg #[.slice (some ⟨ab, ao, none⟩) C.length ca, .slice (some ⟨kb, ko, none⟩) K.length cb]), Pr.eq (.pointer (some ⟨bx, 0, none⟩)), Pr.eq (.slice (some ⟨ab, ao, none⟩) C.length ca), Pr.eq (.int .i64 ((b : Int))), Pr.eq (.pointer (some ⟨ab, ao + b * 3, none⟩)), Pr.eq (.pointer (some ⟨ab, ao + b * 3, none⟩)), Pr.eq (.int .i64 ((cAt C b).id)), Pr.eq (.int .i64 ((casN K (cAt C b).id : Int))), Pr.eq (.bool false), Pr.eq (.bool false), Pr.eq (.bool false)] (GrS w9)) (by kernel_rfl) (by kernel_rfl) (by kernel_rfl) ?_ ?_ ?_
              case refine_1 => exact fun V => GI.start (GrS.start _ _ _)
              case refine_2 =>
               refine .cons (fun V Ld a W hLi hpre hR hI KK hK => ?_) ?_
               ·
                have o12 := (hR.old 12 (by kernel_rfl)).trans (show _ = Value.int .i64 ((loadN K (cAt C j).id : Int)) from rfl)
                exact G_move rfl (.tmp 12) rfl o12 (hI.u0 hK rfl)
               refine .cons (fun V Ld a W hLi hpre hR hI KK hK => ?_) ?_
               ·
                have o13 := (hR.old 13 (by kernel_rfl)).trans (show _ = Value.int .i64 ((loadN K (cAt C b).id : Int)) from rfl)
                exact G_move rfl (.tmp 13) rfl o13 (hI.u0 hK rfl)
               refine .cons (fun V Ld a W hLi hpre hR hI KK hK => ?_) ?_
               ·
                have f0 := hI.ef hR hpre 0 rfl rfl rfl (by kernel_rfl)
                have f1 := hI.ef hR hpre 1 rfl rfl rfl (by kernel_rfl)
                exact J_binOp rfl .lss _ (.tmp 92) (.tmp 93) _ rfl (by rw [f0, f1]; exact bf_lss _ _ _ _ W J1.out) (hI.u0 hK rfl)
               refine .mf 2 rfl rfl rfl rfl rfl (by kernel_rfl) rfl ?_
               refine .cons (fun V Ld a W hLi hpre hR hI KK hK => ?_) ?_
               ·
                refine G_gw hI hR hpre 3 rfl rfl rfl rfl (by kernel_rfl) ?_
                have o12 := (hR.old 12 (by kernel_rfl)).trans (show _ = Value.int .i64 ((loadN K (cAt C j).id : Int)) from rfl)
                exact G_move rfl (.tmp 12) rfl o12 (hI.u0 hK rfl)
               refine .cons (fun V Ld a W hLi hpre hR hI KK hK => ?_) ?_
               ·
                refine G_gw hI hR hpre 3 rfl rfl rfl rfl (by kernel_rfl) ?_
                have o13 := (hR.old 13 (by kernel_rfl)).trans (show _ = Value.int .i64 ((loadN K (cAt C b).id : Int)) from rfl)
                exact G_move rfl (.tmp 13) rfl o13 (hI.u0 hK rfl)
               refine .cons (fun V Ld a W hLi hpre hR hI KK hK => ?_) ?_
               ·
                refine G_gw hI hR hpre 3 rfl rfl rfl rfl (by kernel_rfl) ?_
                have f4 := hI.ef hR hpre 4 rfl rfl rfl (by kernel_rfl)
                have f5 := hI.ef hR hpre 5 rfl rfl rfl (by kernel_rfl)
                exact J_binOp rfl .eql _ (.tmp 96) (.tmp 97) _ rfl (by rw [f4, f5]; exact bt_eql _ _ _ _ W J2.out) (hI.u0 hK rfl)
               refine .cons (fun V Ld a W hLi hpre hR hI KK hK => ?_) ?_
               ·
                refine G_gw hI hR hpre 3 rfl rfl rfl rfl (by kernel_rfl) ?_
                have f6 := hI.ef hR hpre 6 rfl rfl rfl (by kernel_rfl)
                exact G_move rfl (.tmp 98) rfl f6 (hI.u0 hK rfl)
               refine .cons (fun V Ld a W hLi hpre hR hI KK hK => ?_) ?_
               ·
                refine G_gw hI hR hpre 7 rfl rfl rfl rfl (by kernel_rfl) ?_
                have o3 := (hR.old 3 (by kernel_rfl)).trans (show _ = Value.pointer (some ⟨bx, 0, none⟩) from rfl)
                exact J_load rfl _ (.tmp 3) rfl (by rw [o3]; exact ld_desk (HDW.out.below hI.st.bl)) (hI.u0 hK rfl)
               refine .cons (fun V Ld a W hLi hpre hR hI KK hK => ?_) ?_
               ·
                refine G_gw hI hR hpre 7 rfl rfl rfl rfl (by kernel_rfl) ?_
                have o3 := (hR.old 3 (by kernel_rfl)).trans (show _ = Value.pointer (some ⟨bx, 0, none⟩) from rfl)
                exact J_fieldAddr rfl _ (.tmp 3) 0 rfl (by rw [o3]; go_simp) (hI.u0 hK rfl)
               refine .cons (fun V Ld a W hLi hpre hR hI KK hK => ?_) ?_
               ·
                refine G_gw hI hR hpre 7 rfl rfl rfl rfl (by kernel_rfl) ?_
                have f9 := hI.ef hR hpre 9 rfl rfl rfl (by kernel_rfl)
                have c := (HDW.out.below hI.st.bl).c0
                exact J_load rfl _ (.tmp 101) rfl (by rw [f9]; go_simp) (hI.u0 hK rfl)
               refine .cons (fun V Ld a W hLi hpre hR hI KK hK => ?_) ?_
               ·
                refine G_gw hI hR hpre 7 rfl rfl rfl rfl (by kernel_rfl) ?_
                have o11 := (hR.old 11 (by kernel_rfl)).trans (show _ = Value.int .i64 ((j : Int)) from rfl)
                exact G_move rfl (.tmp 11) rfl o11 (hI.u0 hK rfl)
               refine .cons (fun V Ld a W hLi hpre hR hI KK hK => ?_) ?_
               ·
                refine G_gw hI hR hpre 7 rfl rfl rfl rfl (by kernel_rfl) ?_
                have f10 := hI.ef hR hpre 10 rfl rfl rfl (by kernel_rfl)
                have f11 := hI.ef hR hpre 11 rfl rfl rfl (by kernel_rfl)
                exact J_indexAddr rfl _ (.tmp 102) (.tmp 103) rfl (by rw [f10, f11]; go_simp <;> (intro h; omega)) (hI.u0 hK rfl)
               refine .cons (fun V Ld a W hLi hpre hR hI KK hK => ?_) ?_
               ·
                refine G_gw hI hR hpre 7 rfl rfl rfl rfl (by kernel_rfl) ?_
                have f12 := hI.ef hR hpre 12 rfl rfl rfl (by kernel_rfl)
                exact J_fieldAddr rfl _ (.tmp 104) 0 rfl (by rw [f12]; go_simp) (hI.u0 hK rfl)
               refine .cons (fun V Ld a W hLi hpre hR hI KK hK => ?_) ?_
               ·
                refine G_gw hI hR hpre 7 rfl rfl rfl rfl (by kernel_rfl) ?_
                have f13 := hI.ef hR hpre 13 rfl rfl rfl (by kernel_rfl)
                have c := (hI.st.bl.cell LAW.out).trans XJW.out
                exact J_load rfl _ (.tmp 105) rfl (by rw [f13]; go_simp) (hI.u0 hK rfl)
               refine .cons (fun V Ld a W hLi hpre hR hI KK hK => ?_) ?_
               ·
                refine G_gw hI hR hpre 7 rfl rfl rfl rfl (by kernel_rfl) ?_
                have f8 := hI.ef hR hpre 8 rfl rfl rfl (by kernel_rfl)
                have f14 := hI.ef hR hpre 14 rfl rfl rfl (by kernel_rfl)
                refine J_call rfl _ _ _ rfl enter_tot (by simp only [List.map_toArray, List.map_cons, List.map_nil, f8, f14]) (HTO.out W hI.st.bl (cAt C j).id) ?_
                rintro e w' ⟨rfl, hb⟩
                exact ⟨_, rfl, hK _ _ (hI.put (R := Bl) hb 15 rfl rfl (hI.st.to hb))⟩
               refine .cons (fun V Ld a W hLi hpre hR hI KK hK => ?_) ?_
               ·
                refine G_gw hI hR hpre 7 rfl rfl rfl rfl (by kernel_rfl) ?_
                have o3 := (hR.old 3 (by kernel_rfl)).trans (show _ = Value.pointer (some ⟨bx, 0, none⟩) from rfl)
                exact J_load rfl _ (.tmp 3) rfl (by rw [o3]; exact ld_desk (HDW.out.below hI.st.bl)) (hI.u0 hK rfl)
               refine .cons (fun V Ld a W hLi hpre hR hI KK hK => ?_) ?_
               ·
                refine G_gw hI hR hpre 7 rfl rfl rfl rfl (by kernel_rfl) ?_
                have o3 := (hR.old 3 (by kernel_rfl)).trans (show _ = Value.pointer (some ⟨bx, 0, none⟩) from rfl)
                exact J_fieldAddr rfl _ (.tmp 3) 0 rfl (by rw [o3]; go_simp) (hI.u0 hK rfl)
               refine .cons (fun V Ld a W hLi hpre hR hI KK hK => ?_) ?_
               ·
                refine G_gw hI hR hpre 7 rfl rfl rfl rfl (by kernel_rfl) ?_
                have f17 := hI.ef hR hpre 17 rfl rfl rfl (by kernel_rfl)
                have c := (HDW.out.below hI.st.bl).c0
                exact J_load rfl _ (.tmp 109) rfl (by rw [f17]; go_simp) (hI.u0 hK rfl)
               refine .cons (fun V Ld a W hLi hpre hR hI KK hK => ?_) ?_
               ·
                refine G_gw hI hR hpre 7 rfl rfl rfl rfl (by kernel_rfl) ?_
                have o10 := (hR.old 10 (by kernel_rfl)).trans (show _ = Value.int .i64 ((b : Int)) from rfl)
                exact G_move rfl (.tmp 10) rfl o10 (hI.u0 hK rfl)
               refine .cons (fun V Ld a W hLi hpre hR hI KK hK => ?_) ?_
               ·
                refine G_gw hI hR hpre 7 rfl rfl rfl rfl (by kernel_rfl) ?_
                have f18 := hI.ef hR hpre 18 rfl rfl rfl (by kernel_rfl)
                have f19 := hI.ef hR hpre 19 rfl rfl rfl (by kernel_rfl)
                exact J_indexAddr rfl _ (.tmp 110) (.tmp 111) rfl (by rw [f18, f19]; go_simp <;> (intro h; omega)) (hI.u0 hK rfl)
               refine .cons (fun V Ld a W hLi hpre hR hI KK hK => ?_) ?_
               ·
                refine G_gw hI hR hpre 7 rfl rfl rfl rfl (by kernel_rfl) ?_
                have f20 := hI.ef hR hpre 20 rfl rfl rfl (by kernel_rfl)
                exact J_fieldAddr rfl _ (.tmp 112) 0 rfl (by rw [f20]; go_simp) (hI.u0 hK rfl)
               refine .cons (fun V Ld a W hLi hpre hR hI KK hK => ?_) ?_
               ·
                refine G_gw hI hR hpre 7 rfl rfl rfl rfl (by kernel_rfl) ?_
                have f21 := hI.ef hR hpre 21 rfl rfl rfl (by kernel_rfl)
                have c := (hI.st.bl.cell LAW.out).trans XBW.out
                exact J_load rfl _ (.tmp 113) rfl (by rw [f21]; go_simp) (hI.u0 hK rfl)
               refine .cons (fun V Ld a W hLi hpre hR hI KK hK => ?_) ?_
               ·
                refine G_gw hI hR hpre 7 rfl rfl rfl rfl (by kernel_rfl) ?_
                have f16 := hI.ef hR hpre 16 rfl rfl rfl (by kernel_rfl)
                have f22 := hI.ef hR hpre 22 rfl rfl rfl (by kernel_rfl)
                refine J_call rfl _ _ _ rfl enter_tot (by simp only [List.map_toArray, List.map_cons, List.map_nil, f16, f22]) (HTO.out W hI.st.bl (cAt C b).id) ?_
                rintro e w' ⟨rfl, hb⟩
                exact ⟨_, rfl, hK _ _ (hI.put (R := Bl) hb 23 rfl rfl (hI.st.to hb))⟩
               refine .cons (fun V Ld a W hLi hpre hR hI KK hK => ?_) ?_
               ·
                refine G_gw hI hR hpre 7 rfl rfl rfl rfl (by kernel_rfl) ?_
                have f15 := hI.ef hR hpre 15 rfl rfl rfl (by kernel_rfl)
                have f23 := hI.ef hR hpre 23 rfl rfl rfl (by kernel_rfl)
                exact J_binOp rfl .lss _ (.tmp 107) (.tmp 115) _ rfl (by rw [f15, f23]; exact bf_lss _ _ _ _ W J3.out) (hI.u0 hK rfl)
               refine .cons (fun V Ld a W hLi hpre hR hI KK hK => ?_) ?_
               ·
                refine G_gw hI hR hpre 3 rfl rfl rfl rfl (by kernel_rfl) ?_
                have f7 := hI.ef hR hpre 7 rfl rfl rfl (by kernel_rfl)
                have f24 := hI.ef hR hpre 24 rfl rfl rfl (by kernel_rfl)
                exact G_pick rfl (.tmp 99) (.tmp 116) (.const (.bool false)) rfl f7 (show _ = _ from f24) (hI.u0 hK rfl)
               refine .cons (fun V Ld a W hLi hpre hR hI KK hK => ?_) trivial
               ·
                have f3 := hI.ef hR hpre 3 rfl rfl rfl (by kernel_rfl)
                have f25 := hI.ef hR hpre 25 rfl rfl rfl (by kernel_rfl)
                exact G_pick rfl (.tmp 95) (.const (.bool true)) (.tmp 117) rfl f3 (show _ = _ from f25) (hI.u0 hK rfl)
              case refine_3 =>
               intro V Ld w9 hLd hI
               have e9 : V 26 = .bool false := hI.val 26 _ rfl (hLd 26 (by decide))
               have hb9 := hI.st.bl
               clear hI hLd
               simp only [finL, putL, Act.put, Nat.reduceAdd]
               rw [e9]
               clear e9
               generalize V 0 = v0, V 1 = v1
               generalize V 2 = v2, V 3 = v3
               generalize V 4 = v4, V 5 = v5
               generalize V 6 = v6, V 7 = v7
               generalize V 8 = v8, V 9 = v9
               generalize V 10 = v10, V 11 = v11
               generalize V 12 = v12, V 13 = v13
               generalize V 14 = v14, V 15 = v15
               generalize V 16 = v16, V 17 = v17
               generalize V 18 = v18, V 19 = v19
               generalize V 20 = v20, V 21 = v21
               generalize V 22 = v22, V 23 = v23
               generalize V 24 = v24, V 25 = v25
               clear V
               simp only [List.setIfInBounds_toArray, List.set_cons_succ, List.set_cons_zero]
               have HBF := Lib.hid (below_trans HBW9.out hb9)
               clear hb9
               go_wp2_with fail
               go_roundw
               case rel => exact ⟨j + 1, by omega, by go_num, by rw [HN.out], HBF.out⟩
               case measure => simp [intOf] <;> omega
            ·
             have J1 := Lib.hid (show (loadN K (cAt C b).id : Int) ≤ (loadN K (cAt C j).id : Int) by omega)
             have J2 := Lib.hid (show ((loadN K (cAt C j).id : Int) == (loadN K (cAt C b).id : Int)) = false from beq_eq_false_iff_ne.2 (by omega))
             clear hl
             have HN := Lib.hid (show bstI K C r o (j + 1) = (b : Int) from bst_n HCAN.out HBE.out (bet_gt J1.out J2.out))
             go_upto_region 17 with fail
             refine wp_region_J2 (GI (R := Bl) [Pr.eq (.int .i64 ((loadN K (cAt C j).id : Int))), Pr.eq (.int .i64 ((loadN K (cAt C b).id : Int))), Pr.eq (.bool false), Pr.eq (.bool false), Pr.eq (.int .i64 ((loadN K (cAt C j).id : Int))), Pr.eq (.int .i64 ((loadN K (cAt C b).id : Int))), Pr.eq (.bool false), Pr.eq (.bool false), Pr.eq undef, Pr.eq undef, Pr.eq undef, Pr.eq undef, Pr.eq undef, Pr.eq undef, Pr.eq undef, Pr.eq undef, Pr.eq undef, Pr.eq undef, Pr.eq undef, Pr.eq undef, Pr.eq undef, Pr.eq undef, Pr.eq undef, Pr.eq undef, Pr.eq undef, Pr.eq (.bool false), Pr.eq (.bool false)] (GrS w9)) (by kernel_rfl) (by kernel_rfl) (by kernel_rfl) ?_ ?_ ?_
             case refine_1 => exact fun V => GI.start (GrS.start _ _ _)
             case refine_2 =>
              refine .cons (fun V Ld a W hLi hpre hR hI KK hK => ?_) ?_
              ·
               have o12 := (hR.old 12 (by kernel_rfl)).trans (show _ = Value.int .i64 ((loadN K (cAt C j).id : Int)) from rfl)
               exact G_move rfl (.tmp 12) rfl o12 (hI.u0 hK rfl)
              refine .cons (fun V Ld a W hLi hpre hR hI KK hK => ?_) ?_
              ·
               have o13 := (hR.old 13 (by kernel_rfl)).trans (show _ = Value.int .i64 ((loadN K (cAt C b).id : Int)) from rfl)
               exact G_move rfl (.tmp 13) rfl o13 (hI.u0 hK rfl)
              refine .cons (fun V Ld a W hLi hpre hR hI KK hK => ?_) ?_
              ·
               have f0 := hI.ef hR hpre 0 rfl rfl rfl (by kernel_rfl)
               have f1 := hI.ef hR hpre 1 rfl rfl rfl (by kernel_rfl)
               exact J_binOp rfl .lss _ (.tmp 92) (.tmp 93) _ rfl (by rw [f0, f1]; exact bf_lss _ _ _ _ W J1.out) (hI.u0 hK rfl)
              refine .mf 2 rfl rfl rfl rfl rfl (by kernel_rfl) rfl ?_
              refine .cons (fun V Ld a W hLi hpre hR hI KK hK => ?_) ?_
              ·
               refine G_gw hI hR hpre 3 rfl rfl rfl rfl (by kernel_rfl) ?_
               have o12 := (hR.old 12 (by kernel_rfl)).trans (show _ = Value.int .i64 ((loadN K (cAt C j).id : Int)) from rfl)
               exact G_move rfl (.tmp 12) rfl o12 (hI.u0 hK rfl)
              refine .cons (fun V Ld a W hLi hpre hR hI KK hK => ?_) ?_
              ·
               refine G_gw hI hR hpre 3 rfl rfl rfl rfl (by kernel_rfl) ?_
               have o13 := (hR.old 13 (by kernel_rfl)).trans (show _ = Value.int .i64 ((loadN K (cAt C b).id : Int)) from rfl)
               exact G_move rfl (.tmp 13) rfl o13 (hI.u0 hK rfl)
              refine .cons (fun V Ld a W hLi hpre hR hI KK hK => ?_) ?_
              ·
               refine G_gw hI hR hpre 3 rfl rfl rfl rfl (by kernel_rfl) ?_
               have f4 := hI.ef hR hpre 4 rfl rfl rfl (by kernel_rfl)
               have f5 := hI.ef hR hpre 5 rfl rfl rfl (by kernel_rfl)
               exact J_binOp rfl .eql _ (.tmp 96) (.tmp 97) _ rfl (by rw [f4, f5]; exact bf_eql _ _ _ _ W J2.out) (hI.u0 hK rfl)
              refine .cons (fun V Ld a W hLi hpre hR hI KK hK => ?_) ?_
              ·
               refine G_gw hI hR hpre 3 rfl rfl rfl rfl (by kernel_rfl) ?_
               have f6 := hI.ef hR hpre 6 rfl rfl rfl (by kernel_rfl)
               exact G_move rfl (.tmp 98) rfl f6 (hI.u0 hK rfl)
              refine .un 7 rfl rfl rfl rfl (by kernel_rfl) rfl ?_
              refine .un 7 rfl rfl rfl rfl (by kernel_rfl) rfl ?_
              refine .un 7 rfl rfl rfl rfl (by kernel_rfl) rfl ?_
              refine .un 7 rfl rfl rfl rfl (by kernel_rfl) rfl ?_
              refine .un 7 rfl rfl rfl rfl (by kernel_rfl) rfl ?_
              refine .un 7 rfl rfl rfl rfl (by kernel_rfl) rfl ?_
              refine .un 7 rfl rfl rfl rfl (by kernel_rfl) rfl ?_
              refine .un 7 rfl rfl rfl rfl (by kernel_rfl) rfl ?_
              refine .un 7 rfl rfl rfl rfl (by kernel_rfl) rfl ?_
              refine .un 7 rfl rfl rfl rfl (by kernel_rfl) rfl ?_
              refine .un 7 rfl rfl rfl rfl (by kernel_rfl) rfl ?_
              refine .un 7 rfl rfl rfl rfl (by kernel_rfl) rfl ?_
              refine .un 7 rfl rfl rfl rfl (by kernel_rfl) rfl ?_
              refine .un 7 rfl rfl rfl rfl (by kernel_rfl) rfl ?_
              refine .un 7 rfl rfl rfl rfl (by kernel_rfl) rfl ?_
              refine .un 7 rfl rfl rfl rfl (by kernel_rfl) rfl ?_
              refine .un 7 rfl rfl rfl rfl (by kernel_rfl) rfl ?_
              refine .cons (fun V Ld a W hLi hpre hR hI KK hK => ?_) ?_
              ·
               refine G_gw hI hR hpre 3 rfl rfl rfl rfl (by kernel_rfl) ?_
               have f7 := hI.ef hR hpre 7 rfl rfl rfl (by kernel_rfl)
               exact G_pick rfl (.tmp 99) (.tmp 116) (.const (.bool false)) rfl f7 (show _ = _ from rfl) (hI.u0 hK rfl)
              refine .cons (fun V Ld a W hLi hpre hR hI KK hK => ?_) trivial
              ·
               have f3 := hI.ef hR hpre 3 rfl rfl rfl (by kernel_rfl)
               have f25 := hI.ef hR hpre 25 rfl rfl rfl (by kernel_rfl)
               exact G_pick rfl (.tmp 95) (.const (.bool true)) (.tmp 117) rfl f3 (show _ = _ from f25) (hI.u0 hK rfl)
             case refine_3 =>
              intro V Ld w9 hLd hI
              have e9 : V 26 = .bool false := hI.val 26 _ rfl (hLd 26 (by decide))
              have hb9 := hI.st.bl
              clear hI hLd
              simp only [finL, putL, Act.put, Nat.reduceAdd]
              rw [e9]
              clear e9
              generalize V 0 = v0, V 1 = v1
              generalize V 2 = v2, V 3 = v3
              generalize V 4 = v4, V 5 = v5
              generalize V 6 = v6, V 7 = v7
              generalize V 8 = v8, V 9 = v9
              generalize V 10 = v10, V 11 = v11
              generalize V 12 = v12, V 13 = v13
              generalize V 14 = v14, V 15 = v15
              generalize V 16 = v16, V 17 = v17
              generalize V 18 = v18, V 19 = v19
              generalize V 20 = v20, V 21 = v21
              generalize V 22 = v22, V 23 = v23
              generalize V 24 = v24, V 25 = v25
              clear V
              simp only [List.setIfInBounds_toArray, List.set_cons_succ, List.set_cons_zero]
              have HBF := Lib.hid (below_trans HBW9.out hb9)
              clear hb9
              go_wp2_with fail
              go_roundw
              case rel => exact ⟨j + 1, by omega, by go_num, by rw [HN.out], HBF.out⟩
              case measure => simp [intOf] <;> omega
        ·
         obtain rfl : C.length = j := by omega
         have j1 : ¬ (C.length : Int) < (C.length : Int) := by omega
         have HV := Lib.hid HRES.out
         generalize bstI K C r o C.length = q at *
         go_wp2_with fail
         go_ret
         exact RetB.int HV.out HBT.out
  ·
   have HRES := Lib.hid (show bstI K C r o C.length = refCh ⟨C, K⟩ r o from by unfold refCh; rw [find_none (fun j hj => HP.out j (by omega) hj)])
   clear d0 d1 dl
   have HW := Lib.hid (HBR.out)
   have HDW0 := Lib.hid (HDC.out.below HW.out)
   go_wp2_with fail
   go_loopw [11, 10] (fun i q wq => ∃ j : Nat, j ≤ C.length ∧ i = .int .i64 j ∧ q = .int .i64 (bstI K C r o j) ∧ Below wh.heap.size wh wq) (fun i _ _ => C.length - (intOf i).toNat)
   case atStart => exact ⟨0, Nat.zero_le _, rfl, rfl, HW.out⟩
   case round =>
    obtain ⟨j, hj, rfl, rfl, hbq⟩ := hrel
    have HBQ := Lib.hid hbq
    have HBT := Lib.hid (HBZ.out _ hbq)
    have HDB := Lib.hid (HDC.out.below hbq)
    have d0 := HDB.out.c0
    have dl := HDB.out.lt
    clear hbq
    by_cases hlj : j < C.length
    ·
     obtain ⟨ab, ao, x, rfl, hab, -, x0, x1, x2, hx⟩ := (HC.out.below HBT.out).elem hlj
     have j0 : (0 : Int) ≤ (j : Int) := by omega
     have j1 : (j : Int) < (C.length : Int) := by omega
     have hal := HA.out j hlj
     have HX0 := Lib.hid (show wr.cell? ⟨ab, ao + j * 3, none⟩ = some (.int .i64 (cAt C j).id) from by rw [x0, hx.id])
     have LAB := Lib.hid hab
     go_wp2_with fail
     refine ret_below (can_any x (cAt C j) r o _ hx (by omega)) fun w5 hb5 => ?_
     have HB5 := Lib.hid hb5
     clear hx x0 x1 x2 d0 dl hb5
     cases hcan : canB (cAt C j) r o with
     | false =>
      have HN := Lib.hid (show bstI K C r o (j + 1) = bstI K C r o j from bst_no hcan)
      clear hcan
      generalize bstI K C r o j = q at *
      go_wp2_with fail
      go_roundw
      case rel => exact ⟨j + 1, by omega, by go_num, by rw [HN.out], below_trans HBQ.out HB5.out⟩
      case measure => simp [intOf] <;> omega
     | true =>
      have HCAN := Lib.hid hcan
      clear hcan
      rcases bst_bd K C r o j with hq | ⟨b, hq, hbj⟩
      ·
       have HN := Lib.hid (show bstI K C r o (j + 1) = (j : Int) from bst_first HCAN.out hq)
       rw [hq]
       clear hq
       go_wp2_with fail
       go_roundw
       case rel => exact ⟨j + 1, by omega, by go_num, by rw [HN.out], below_trans HBQ.out HB5.out⟩
       case measure => simp [intOf] <;> omega
      ·
       have HBE := Lib.hid hq
       rw [hq]
       clear hq
       have hbl : b < C.length := by omega
       obtain ⟨ab', ao', y, e', -, -, y0, -, -, hy⟩ := (HC.out.below HBT.out).elem hbl
       obtain ⟨rfl, rfl⟩ : ab = ab' ∧ ao = ao' := by injection e' with e'; injection e' with e1 e2; exact ⟨e1, e2⟩
       have XB0 := Lib.hid (show wr.cell? ⟨ab, ao + b * 3, none⟩ = some (.int .i64 (cAt C b).id) from by rw [y0, hy.id])
       clear e' y0 hy
       have b0 : ¬ (b : Int) < 0 := by omega
       have b1 : (0 : Int) ≤ (b : Int) := by omega
       have b2 : (b : Int) < (C.length : Int) := by omega
       have XJ := Lib.hid ((HB5.out.cell LAB.out).trans HX0.out)
       have XB := Lib.hid ((HB5.out.cell LAB.out).trans XB0.out)
       replace HDB := Lib.hid (HDB.out.below HB5.out)
       replace LAB := Lib.hid (Nat.lt_of_lt_of_le LAB.out HB5.out.size)
       have HBT5 := Lib.hid (below_trans HBT.out HB5.out)
       have HBQ5 := Lib.hid (below_trans HBQ.out HB5.out)
       have HDR5 := Lib.hid (show DeskR P w5 (.agg #[.slice (some ⟨ab, ao, none⟩) C.length ca, .slice B K.length cb]) ⟨C, K⟩ from ⟨_, _, _, _, rfl, HC.out.below HBT5.out, HKS.out.below HBT5.out⟩)
       have HUN := Lib.hid (fun (W : World) (hb : Below w5.heap.size w5 W) (id : Int) => refUnseen_any _ id ⟨C, K⟩ W (HDR5.out.below hb) (show K.length ≤ 10000 by omega))
       clear hab
       go_upto_region 16 with fail
       refine wp_region_J2 (GI (R := Bl) [Pr.eq (.agg #[.slice (some ⟨ab, ao, none⟩) C.length ca, .slice B K.length cb]), Pr.eq (.pointer (some ⟨bx, 0, none⟩)), Pr.eq (.slice (some ⟨ab, ao, none⟩) C.length ca), Pr.eq (.int .i64 (j : Int)), Pr.eq (.pointer (some ⟨ab, ao + j * 3, none⟩)), Pr.eq (.pointer (some ⟨ab, ao + j * 3, none⟩)), Pr.eq (.int .i64 (cAt C j).id), lenP (loadN K (cAt C j).id), Pr.eq (.int .i64 (loadN K (cAt C j).id : Int)), Pr.eq (.agg #[.slice (some ⟨ab, ao, none⟩) C.length ca, .slice B K.length cb]), Pr.eq (.pointer (some ⟨bx, 0, none⟩)), Pr.eq (.slice (some ⟨ab, ao, none⟩) C.length ca), Pr.eq (.int .i64 (b : Int)), Pr.eq (.pointer (some ⟨ab, ao + b * 3, none⟩)), Pr.eq (.pointer (some ⟨ab, ao + b * 3, none⟩)), Pr.eq (.int .i64 (cAt C b).id), lenP (loadN K (cAt C b).id), Pr.eq (.int .i64 (loadN K (cAt C b).id : Int)), Pr.eq (.int .i64 (loadN K (cAt C j).id : Int)), Pr.eq (.int .i64 (loadN K (cAt C b).id : Int))] (GrS w5)) (by kernel_rfl) (by kernel_rfl) (by kernel_rfl) ?_ ?_ ?_
       case refine_1 => exact fun V => GI.start (GrS.start _ _ _)
       case refine_2 =>
        refine .cons (fun V Ld a W hLi hpre hR hI KK hK => ?_) ?_
        ·
         have o3 := (hR.old 3 (by kernel_rfl)).trans (show _ = Value.pointer (some ⟨bx, 0, none⟩) from rfl)
         have hd := HDB.out.below hI.st.bl
         exact J_load rfl _ (.tmp 3) rfl (by rw [o3]; exact ld_desk hd) (hI.u0 hK rfl)
        refine .cons (fun V Ld a W hLi hpre hR hI KK hK => ?_) ?_
        ·
         have o3 := (hR.old 3 (by kernel_rfl)).trans (show _ = Value.pointer (some ⟨bx, 0, none⟩) from rfl)
         exact J_fieldAddr rfl _ (.tmp 3) 0 rfl (by rw [o3]; go_simp) (hI.u0 hK rfl)
        refine .cons (fun V Ld a W hLi hpre hR hI KK hK => ?_) ?_
        ·
         have f1 := hI.ef hR hpre 1 rfl rfl rfl (by kernel_rfl)
         have hd := HDB.out.below hI.st.bl
         have d0 := hd.c0
         exact J_load rfl _ (.tmp 75) rfl (by rw [f1]; go_simp) (hI.u0 hK rfl)
        refine .cons (fun V Ld a W hLi hpre hR hI KK hK => ?_) ?_
        ·
         have o11 := (hR.old 11 (by kernel_rfl)).trans (show _ = Value.int .i64 (j : Int) from rfl)
         exact G_move rfl (.tmp 11) rfl o11 (hI.u0 hK rfl)
        refine .cons (fun V Ld a W hLi hpre hR hI KK hK => ?_) ?_
        ·
         have f2 := hI.ef hR hpre 2 rfl rfl rfl (by kernel_rfl)
         have f3 := hI.ef hR hpre 3 rfl rfl rfl (by kernel_rfl)
         exact J_indexAddr rfl _ (.tmp 76) (.tmp 77) rfl (by rw [f2, f3]; go_simp <;> (intro h; omega)) (hI.u0 hK rfl)
        refine .cons (fun V Ld a W hLi hpre hR hI KK hK => ?_) ?_
        ·
         have f4 := hI.ef hR hpre 4 rfl rfl rfl (by kernel_rfl)
         exact J_fieldAddr rfl _ (.tmp 78) 0 rfl (by rw [f4]; go_simp) (hI.u0 hK rfl)
        refine .cons (fun V Ld a W hLi hpre hR hI KK hK => ?_) ?_
        ·
         have f5 := hI.ef hR hpre 5 rfl rfl rfl (by kernel_rfl)
         have x0 := (hI.st.bl.cell LAB.out).trans XJ.out
         exact J_load rfl _ (.tmp 79) rfl (by rw [f5]; go_simp) (hI.u0 hK rfl)
        refine .cons (fun V Ld a W hLi hpre hR hI KK hK => ?_) ?_
        ·
         have f0 := hI.ef hR hpre 0 rfl rfl rfl (by kernel_rfl)
         have f6 := hI.ef hR hpre 6 rfl rfl rfl (by kernel_rfl)
         refine J_call rfl _ _ _ rfl enter_runs (by simp only [List.map_toArray, List.map_cons, List.map_nil, f0, f6]) (HUN.out W hI.st.bl (cAt C j).id) ?_
         rintro e w' ⟨v, rfl, ho, hb⟩
         exact ⟨_, rfl, hK _ _ (hI.put (R := Bl) hb 7 rfl (lenP_of ho) (hI.st.to hb))⟩
        refine .cons (fun V Ld a W hLi hpre hR hI KK hK => ?_) ?_
        ·
         have p7 := pm hpre 7 (by kernel_rfl)
         obtain ⟨A7, c7, e7⟩ := hI.val 7 _ rfl p7
         have f7 := (hR.ev 7 rfl rfl p7).trans e7
         exact G_len rfl (.tmp 81) _ rfl (by rw [f7]; go_simp) (hI.u0 hK rfl)
        refine .cons (fun V Ld a W hLi hpre hR hI KK hK => ?_) ?_
        ·
         have o3 := (hR.old 3 (by kernel_rfl)).trans (show _ = Value.pointer (some ⟨bx, 0, none⟩) from rfl)
         have hd := HDB.out.below hI.st.bl
         exact J_load rfl _ (.tmp 3) rfl (by rw [o3]; exact ld_desk hd) (hI.u0 hK rfl)
        refine .cons (fun V Ld a W hLi hpre hR hI KK hK => ?_) ?_
        ·
         have o3 := (hR.old 3 (by kernel_rfl)).trans (show _ = Value.pointer (some ⟨bx, 0, none⟩) from rfl)
         exact J_fieldAddr rfl _ (.tmp 3) 0 rfl (by rw [o3]; go_simp) (hI.u0 hK rfl)
        refine .cons (fun V Ld a W hLi hpre hR hI KK hK => ?_) ?_
        ·
         have f10 := hI.ef hR hpre 10 rfl rfl rfl (by kernel_rfl)
         have hd := HDB.out.below hI.st.bl
         have d0 := hd.c0
         exact J_load rfl _ (.tmp 84) rfl (by rw [f10]; go_simp) (hI.u0 hK rfl)
        refine .cons (fun V Ld a W hLi hpre hR hI KK hK => ?_) ?_
        ·
         have o10 := (hR.old 10 (by kernel_rfl)).trans (show _ = Value.int .i64 (b : Int) from rfl)
         exact G_move rfl (.tmp 10) rfl o10 (hI.u0 hK rfl)
        refine .cons (fun V Ld a W hLi hpre hR hI KK hK => ?_) ?_
        ·
         have f11 := hI.ef hR hpre 11 rfl rfl rfl (by kernel_rfl)
         have f12 := hI.ef hR hpre 12 rfl rfl rfl (by kernel_rfl)
         exact J_indexAddr rfl _ (.tmp 85) (.tmp 86) rfl (by rw [f11, f12]; go_simp <;> (intro h; omega)) (hI.u0 hK rfl)
        refine .cons (fun V Ld a W hLi hpre hR hI KK hK => ?_) ?_
        ·
         have f13 := hI.ef hR hpre 13 rfl rfl rfl (by kernel_rfl)
         exact J_fieldAddr rfl _ (.tmp 87) 0 rfl (by rw [f13]; go_simp) (hI.u0 hK rfl)
        refine .cons (fun V Ld a W hLi hpre hR hI KK hK => ?_) ?_
        ·
         have f14 := hI.ef hR hpre 14 rfl rfl rfl (by kernel_rfl)
         have x0 := (hI.st.bl.cell LAB.out).trans XB.out
         exact J_load rfl _ (.tmp 88) rfl (by rw [f14]; go_simp) (hI.u0 hK rfl)
        refine .cons (fun V Ld a W hLi hpre hR hI KK hK => ?_) ?_
        ·
         have f9 := hI.ef hR hpre 9 rfl rfl rfl (by kernel_rfl)
         have f15 := hI.ef hR hpre 15 rfl rfl rfl (by kernel_rfl)
         refine J_call rfl _ _ _ rfl enter_runs (by simp only [List.map_toArray, List.map_cons, List.map_nil, f9, f15]) (HUN.out W hI.st.bl (cAt C b).id) ?_
         rintro e w' ⟨v, rfl, ho, hb⟩
         exact ⟨_, rfl, hK _ _ (hI.put (R := Bl) hb 16 rfl (lenP_of ho) (hI.st.to hb))⟩
        refine .cons (fun V Ld a W hLi hpre hR hI KK hK => ?_) ?_
        ·
         have p16 := pm hpre 16 (by kernel_rfl)
         obtain ⟨A16, c16, e16⟩ := hI.val 16 _ rfl p16
         have f16 := (hR.ev 16 rfl rfl p16).trans e16
         exact G_len rfl (.tmp 90) _ rfl (by rw [f16]; go_simp) (hI.u0 hK rfl)
        refine .cons (fun V Ld a W hLi hpre hR hI KK hK => ?_) ?_
        ·
         have f8 := hI.ef hR hpre 8 rfl rfl rfl (by kernel_rfl)
         exact G_assign rfl (.tmp 82) rfl f8 (hI.u0 hK rfl)
        refine .cons (fun V Ld a W hLi hpre hR hI KK hK => ?_) trivial
        ·
         have f17 := hI.ef hR hpre 17 rfl rfl rfl (by kernel_rfl)
         exact G_assign rfl (.tmp 91) rfl f17 (hI.u0 hK rfl)
       case refine_3 =>
        intro V Ld w9 hLd hI
        have e18 : V 18 = _ := hI.val 18 _ rfl (hLd 18 (by decide))
        have e19 : V 19 = _ := hI.val 19 _ rfl (hLd 19 (by decide))
        have hb9 := hI.st.bl
        clear hI hLd
        simp only [finL, putL, Act.put, Nat.reduceAdd]
        rw [e18, e19]
        clear e18 e19
        generalize V 0 = v0, V 1 = v1
        generalize V 2 = v2, V 3 = v3
        generalize V 4 = v4, V 5 = v5
        generalize V 6 = v6, V 7 = v7
        generalize V 8 = v8, V 9 = v9
        generalize V 10 = v10, V 11 = v11
        generalize V 12 = v12, V 13 = v13
        generalize V 14 = v14, V 15 = v15
        generalize V 16 = v16, V 17 = v17
        clear V
        simp only [List.setIfInBounds_toArray, List.set_cons_succ, List.set_cons_zero]
        have HBW9 := Lib.hid (below_trans HBQ5.out hb9)
        have HDW := Lib.hid (HDB.out.below hb9)
        have XJW := Lib.hid ((hb9.cell LAB.out).trans XJ.out)
        have XBW := Lib.hid ((hb9.cell LAB.out).trans XB.out)
        have LAW := Lib.hid (Nat.lt_of_lt_of_le LAB.out hb9.size)
        have HDR9 := Lib.hid (HDR5.out.below hb9)
        have HTO := Lib.hid (fun (W : World) (hb : Below w9.heap.size w9 W) (id : Int) => total_any _ id ⟨C, K⟩ W (HDR9.out.below hb) (show K.length ≤ 100000 by omega))
        clear hb9
        rcases Int.lt_trichotomy (loadN K (cAt C j).id : Int) (loadN K (cAt C b).id : Int) with hl | hl | hl
        ·
         have J1 := Lib.hid hl
         clear hl
         have HN := Lib.hid (show bstI K C r o (j + 1) = (j : Int) from bst_y HCAN.out HBE.out (bet_lt J1.out))
         go_upto_region 17 with fail
         refine wp_region_J2 (GI (R := Bl) [Pr.eq (.int .i64 ((loadN K (cAt C j).id : Int))), Pr.eq (.int .i64 ((loadN K (cAt C b).id : Int))), Pr.eq (.bool true), Pr.eq (.bool true), Pr.eq undef, Pr.eq undef, Pr.eq undef, Pr.eq undef, Pr.eq undef, Pr.eq undef, Pr.eq undef, Pr.eq undef, Pr.eq undef, Pr.eq undef, Pr.eq undef, Pr.eq undef, Pr.eq undef, Pr.eq undef, Pr.eq undef, Pr.eq undef, Pr.eq undef, Pr.eq undef, Pr.eq undef, Pr.eq undef, Pr.eq undef, Pr.eq undef, Pr.eq (.bool true)] (GrS w9)) (by kernel_rfl) (by kernel_rfl) (by kernel_rfl) ?_ ?_ ?_
         case refine_1 => exact fun V => GI.start (GrS.start _ _ _)
         case refine_2 =>
          refine .cons (fun V Ld a W hLi hpre hR hI KK hK => ?_) ?_
          ·
           have o12 := (hR.old 12 (by kernel_rfl)).trans (show _ = Value.int .i64 ((loadN K (cAt C j).id : Int)) from rfl)
           exact G_move rfl (.tmp 12) rfl o12 (hI.u0 hK rfl)
          refine .cons (fun V Ld a W hLi hpre hR hI KK hK => ?_) ?_
          ·
           have o13 := (hR.old 13 (by kernel_rfl)).trans (show _ = Value.int .i64 ((loadN K (cAt C b).id : Int)) from rfl)
           exact G_move rfl (.tmp 13) rfl o13 (hI.u0 hK rfl)
          refine .cons (fun V Ld a W hLi hpre hR hI KK hK => ?_) ?_
          ·
           have f0 := hI.ef hR hpre 0 rfl rfl rfl (by kernel_rfl)
           have f1 := hI.ef hR hpre 1 rfl rfl rfl (by kernel_rfl)
           exact J_binOp rfl .lss _ (.tmp 92) (.tmp 93) _ rfl (by rw [f0, f1]; exact bt_lss _ _ _ _ W J1.out) (hI.u0 hK rfl)
          refine .mf 2 rfl rfl rfl rfl rfl (by kernel_rfl) rfl ?_
          refine .un 3 rfl rfl rfl rfl (by kernel_rfl) rfl ?_
          refine .un 3 rfl rfl rfl rfl (by kernel_rfl) rfl ?_
          refine .un 3 rfl rfl rfl rfl (by kernel_rfl) rfl ?_
          refine .un 3 rfl rfl rfl rfl (by kernel_rfl) rfl ?_
          refine .unU 7 rfl rfl rfl rfl (by kernel_rfl) rfl ?_
          refine .unU 7 rfl rfl rfl rfl (by kernel_rfl) rfl ?_
          refine .unU 7 rfl rfl rfl rfl (by kernel_rfl) rfl ?_
          refine .unU 7 rfl rfl rfl rfl (by kernel_rfl) rfl ?_
          refine .unU 7 rfl rfl rfl rfl (by kernel_rfl) rfl ?_
          refine .unU 7 rfl rfl rfl rfl (by kernel_rfl) rfl ?_
          refine .unU 7 rfl rfl rfl rfl (by kernel_rfl) rfl ?_
          refine .unU 7 rfl rfl rfl rfl (by kernel_rfl) rfl ?_
          refine .unU 7 rfl rfl rfl rfl (by kernel_rfl) rfl ?_
          refine .unU 7 rfl rfl rfl rfl (by kernel_rfl) rfl ?_
          refine .unU 7 rfl rfl rfl rfl (by kernel_rfl) rfl ?_
          refine .unU 7 rfl rfl rfl rfl (by kernel_rfl) rfl ?_
          refine .unU 7 rfl rfl rfl rfl (by kernel_rfl) rfl ?_
          refine .unU 7 rfl rfl rfl rfl (by kernel_rfl) rfl ?_
          refine .unU 7 rfl rfl rfl rfl (by kernel_rfl) rfl ?_
          refine .unU 7 rfl rfl rfl rfl (by kernel_rfl) rfl ?_
          refine .unU 7 rfl rfl rfl rfl (by kernel_rfl) rfl ?_
          refine .un 3 rfl rfl rfl rfl (by kernel_rfl) rfl ?_
          refine .cons (fun V Ld a W hLi hpre hR hI KK hK => ?_) trivial
          ·
           have f3 := hI.ef hR hpre 3 rfl rfl rfl (by kernel_rfl)
           exact G_pick rfl (.tmp 95) (.const (.bool true)) (.tmp 117) rfl f3 (show _ = _ from rfl) (hI.u0 hK rfl)
         case refine_3 =>
          intro V Ld w9 hLd hI
          have e9 : V 26 = .bool true := hI.val 26 _ rfl (hLd 26 (by decide))
          have hb9 := hI.st.bl
          clear hI hLd
          simp only [finL, putL, Act.put, Nat.reduceAdd]
          rw [e9]
          clear e9
          generalize V 0 = v0, V 1 = v1
          generalize V 2 = v2, V 3 = v3
          generalize V 4 = v4, V 5 = v5
          generalize V 6 = v6, V 7 = v7
          generalize V 8 = v8, V 9 = v9
          generalize V 10 = v10, V 11 = v11
          generalize V 12 = v12, V 13 = v13
          generalize V 14 = v14, V 15 = v15
          generalize V 16 = v16, V 17 = v17
          generalize V 18 = v18, V 19 = v19
          generalize V 20 = v20, V 21 = v21
          generalize V 22 = v22, V 23 = v23
          generalize V 24 = v24, V 25 = v25
          clear V
          simp only [List.setIfInBounds_toArray, List.set_cons_succ, List.set_cons_zero]
          have HBF := Lib.hid (below_trans HBW9.out hb9)
          clear hb9
          go_wp2_with fail
          go_roundw
          case rel => exact ⟨j + 1, by omega, by go_num, by rw [HN.out], HBF.out⟩
          case measure => simp [intOf] <;> omega
        ·
         have J2 := Lib.hid (show ((loadN K (cAt C j).id : Int) == (loadN K (cAt C b).id : Int)) = true from by simpa using hl)
         have J1 := Lib.hid (show (loadN K (cAt C b).id : Int) ≤ (loadN K (cAt C j).id : Int) by omega)
         clear hl
         by_cases hc : (casN K (cAt C j).id : Int) < (casN K (cAt C b).id : Int)
         ·
          have J3 := Lib.hid hc
          clear hc
          have HN := Lib.hid (show bstI K C r o (j + 1) = (j : Int) from bst_y HCAN.out HBE.out (bet_e1 J2.out J3.out))
          go_upto_region 17 with fail
          refine wp_region_J2 (GI (R := Bl) [Pr.eq (.int .i64 ((loadN K (cAt C j).id : Int))), Pr.eq (.int .i64 ((loadN K (cAt C b).id : Int))), Pr.eq (.bool false), Pr.eq (.bool false), Pr.eq (.int .i64 ((loadN K (cAt C j).id : Int))), Pr.eq (.int .i64 ((loadN K (cAt C b).id : Int))), Pr.eq (.bool true), Pr.eq (.bool true), Pr.eq (.agg #[.slice (some ⟨ab, ao, none⟩) C.length ca, .slice B K.length cb]), Pr.eq (.pointer (some ⟨bx, 0, none⟩)), Pr.eq (.slice (some ⟨ab, ao, none⟩) C.length ca), Pr.eq (.int .i64 ((j : Int))), Pr.eq (.pointer (some ⟨ab, ao + j * 3, none⟩)), Pr.eq (.pointer (some ⟨ab, ao + j * 3, none⟩)), Pr.eq (.int .i64 ((cAt C j).id)), Pr.eq (.int .i64 ((casN K (cAt C j).id : Int))), Pr.eq (.agg #[.slice (some ⟨ab, ao, none⟩) C.length ca, .slice B K.length cb]), Pr.eq (.pointer (some ⟨bx, 0, none⟩)), Pr.eq (.slice (some ⟨ab, ao, none⟩) C.length ca), Pr.eq (.int .i64 ((b : Int))), Pr.eq (.pointer (some ⟨ab, ao + b * 3, none⟩)), Pr.eq (.pointer (some ⟨ab, ao + b * 3, none⟩)), Pr.eq (.int .i64 ((cAt C b).id)), Pr.eq (.int .i64 ((casN K (cAt C b).id : Int))), Pr.eq (.bool true), Pr.eq (.bool true), Pr.eq (.bool true)] (GrS w9)) (by kernel_rfl) (by kernel_rfl) (by kernel_rfl) ?_ ?_ ?_
          case refine_1 => exact fun V => GI.start (GrS.start _ _ _)
          case refine_2 =>
           refine .cons (fun V Ld a W hLi hpre hR hI KK hK => ?_) ?_
           ·
            have o12 := (hR.old 12 (by kernel_rfl)).trans (show _ = Value.int .i64 ((loadN K (cAt C j).id : Int)) from rfl)
            exact G_move rfl (.tmp 12) rfl o12 (hI.u0 hK rfl)
           refine .cons (fun V Ld a W hLi hpre hR hI KK hK => ?_) ?_
           ·
            have o13 := (hR.old 13 (by kernel_rfl)).trans (show _ = Value.int .i64 ((loadN K (cAt C b).id : Int)) from rfl)
            exact G_move rfl (.tmp 13) rfl o13 (hI.u0 hK rfl)
           refine .cons (fun V Ld a W hLi hpre hR hI KK hK => ?_) ?_
           ·
            have f0 := hI.ef hR hpre 0 rfl rfl rfl (by kernel_rfl)
            have f1 := hI.ef hR hpre 1 rfl rfl rfl (by kernel_rfl)
            exact J_binOp rfl .lss _ (.tmp 92) (.tmp 93) _ rfl (by rw [f0, f1]; exact bf_lss _ _ _ _ W J1.out) (hI.u0 hK rfl)
           refine .mf 2 rfl rfl rfl rfl rfl (by kernel_rfl) rfl ?_
           refine .cons (fun V Ld a W hLi hpre hR hI KK hK => ?_) ?_
           ·
            refine G_gw hI hR hpre 3 rfl rfl rfl rfl (by kernel_rfl) ?_
            have o12 := (hR.old 12 (by kernel_rfl)).trans (show _ = Value.int .i64 ((loadN K (cAt C j).id : Int)) from rfl)
            exact G_move rfl (.tmp 12) rfl o12 (hI.u0 hK rfl)
           refine .cons (fun V Ld a W hLi hpre hR hI KK hK => ?_) ?_
           ·
            refine G_gw hI hR hpre 3 rfl rfl rfl rfl (by kernel_rfl) ?_
            have o13 := (hR.old 13 (by kernel_rfl)).trans (show _ = Value.int .i64 ((loadN K (cAt C b).id : Int)) from rfl)
            exact G_move rfl (.tmp 13) rfl o13 (hI.u0 hK rfl)
           refine .cons (fun V Ld a W hLi hpre hR hI KK hK => ?_) ?_
           ·
            refine G_gw hI hR hpre 3 rfl rfl rfl rfl (by kernel_rfl) ?_
            have f4 := hI.ef hR hpre 4 rfl rfl rfl (by kernel_rfl)
            have f5 := hI.ef hR hpre 5 rfl rfl rfl (by kernel_rfl)
            exact J_binOp rfl .eql _ (.tmp 96) (.tmp 97) _ rfl (by rw [f4, f5]; exact bt_eql _ _ _ _ W J2.out) (hI.u0 hK rfl)
           refine .cons (fun V Ld a W hLi hpre hR hI KK hK => ?_) ?_
           ·
            refine G_gw hI hR hpre 3 rfl rfl rfl rfl (by kernel_rfl) ?_
            have f6 := hI.ef hR hpre 6 rfl rfl rfl (by kernel_rfl)
            exact G_move rfl (.tmp 98) rfl f6 (hI.u0 hK rfl)
           refine .cons (fun V Ld a W hLi hpre hR hI KK hK => ?_) ?_
           ·
            refine G_gw hI hR hpre 7 rfl rfl rfl rfl (by kernel_rfl) ?_
            have o3 := (hR.old 3 (by kernel_rfl)).trans (show _ = Value.pointer (some ⟨bx, 0, none⟩) from rfl)
            exact J_load rfl _ (.tmp 3) rfl (by rw [o3]; exact ld_desk (HDW.out.below hI.st.bl)) (hI.u0 hK rfl)
           refine .cons (fun V Ld a W hLi hpre hR hI KK hK => ?_) ?_
           ·
            refine G_gw hI hR hpre 7 rfl rfl rfl rfl (by kernel_rfl) ?_
            have o3 := (hR.old 3 (by kernel_rfl)).trans (show _ = Value.pointer (some ⟨bx, 0, none⟩) from rfl)
            exact J_fieldAddr rfl _ (.tmp 3) 0 rfl (by rw [o3]; go_simp) (hI.u0 hK rfl)
           refine .cons (fun V Ld a W hLi hpre hR hI KK hK => ?_) ?_
           ·
            refine G_gw hI hR hpre 7 rfl rfl rfl rfl (by kernel_rfl) ?_
            have f9 := hI.ef hR hpre 9 rfl rfl rfl (by kernel_rfl)
            have c := (HDW.out.below hI.st.bl).c0
            exact J_load rfl _ (.tmp 101) rfl (by rw [f9]; go_simp) (hI.u0 hK rfl)
           refine .cons (fun V Ld a W hLi hpre hR hI KK hK => ?_) ?_
           ·
            refine G_gw hI hR hpre 7 rfl rfl rfl rfl (by kernel_rfl) ?_
            have o11 := (hR.old 11 (by kernel_rfl)).trans (show _ = Value.int .i64 ((j : Int)) from rfl)
            exact G_move rfl (.tmp 11) rfl o11 (hI.u0 hK rfl)
           refine .cons (fun V Ld a W hLi hpre hR hI KK hK => ?_) ?_
           ·
            refine G_gw hI hR hpre 7 rfl rfl rfl rfl (by kernel_rfl) ?_
            have f10 := hI.ef hR hpre 10 rfl rfl rfl (by kernel_rfl)
            have f11 := hI.ef hR hpre 11 rfl rfl rfl (by kernel_rfl)
            exact J_indexAddr rfl _ (.tmp 102) (.tmp 103) rfl (by rw [f10, f11]; go_simp <;> (intro h; omega)) (hI.u0 hK rfl)
           refine .cons (fun V Ld a W hLi hpre hR hI KK hK => ?_) ?_
           ·
            refine G_gw hI hR hpre 7 rfl rfl rfl rfl (by kernel_rfl) ?_
            have f12 := hI.ef hR hpre 12 rfl rfl rfl (by kernel_rfl)
            exact J_fieldAddr rfl _ (.tmp 104) 0 rfl (by rw [f12]; go_simp) (hI.u0 hK rfl)
           refine .cons (fun V Ld a W hLi hpre hR hI KK hK => ?_) ?_
           ·
            refine G_gw hI hR hpre 7 rfl rfl rfl rfl (by kernel_rfl) ?_
            have f13 := hI.ef hR hpre 13 rfl rfl rfl (by kernel_rfl)
            have c := (hI.st.bl.cell LAW.out).trans XJW.out
            exact J_load rfl _ (.tmp 105) rfl (by rw [f13]; go_simp) (hI.u0 hK rfl)
           refine .cons (fun V Ld a W hLi hpre hR hI KK hK => ?_) ?_
           ·
            refine G_gw hI hR hpre 7 rfl rfl rfl rfl (by kernel_rfl) ?_
            have f8 := hI.ef hR hpre 8 rfl rfl rfl (by kernel_rfl)
            have f14 := hI.ef hR hpre 14 rfl rfl rfl (by kernel_rfl)
            refine J_call rfl _ _ _ rfl enter_tot (by simp only [List.map_toArray, List.map_cons, List.map_nil, f8, f14]) (HTO.out W hI.st.bl (cAt C j).id) ?_
            rintro e w' ⟨rfl, hb⟩
            exact ⟨_, rfl, hK _ _ (hI.put (R := Bl) hb 15 rfl rfl (hI.st.to hb))⟩
           refine .cons (fun V Ld a W hLi hpre hR hI KK hK => ?_) ?_
           ·
            refine G_gw hI hR hpre 7 rfl rfl rfl rfl (by kernel_rfl) ?_
            have o3 := (hR.old 3 (by kernel_rfl)).trans (show _ = Value.pointer (some ⟨bx, 0, none⟩) from rfl)
            exact J_load rfl _ (.tmp 3) rfl (by rw [o3]; exact ld_desk (HDW.out.below hI.st.bl)) (hI.u0 hK rfl)
           refine .cons (fun V Ld a W hLi hpre hR hI KK hK => ?_) ?_
           ·
            refine G_gw hI hR hpre 7 rfl rfl rfl rfl (by kernel_rfl) ?_
            have o3 := (hR.old 3 (by kernel_rfl)).trans (show _ = Value.pointer (some ⟨bx, 0, none⟩) from rfl)
            exact J_fieldAddr rfl _ (.tmp 3) 0 rfl (by rw [o3]; go_simp) (hI.u0 hK rfl)
           refine .cons (fun V Ld a W hLi hpre hR hI KK hK => ?_) ?_
           ·
            refine G_gw hI hR hpre 7 rfl rfl rfl rfl (by kernel_rfl) ?_
            have f17 := hI.ef hR hpre 17 rfl rfl rfl (by kernel_rfl)
            have c := (HDW.out.below hI.st.bl).c0
            exact J_load rfl _ (.tmp 109) rfl (by rw [f17]; go_simp) (hI.u0 hK rfl)
           refine .cons (fun V Ld a W hLi hpre hR hI KK hK => ?_) ?_
           ·
            refine G_gw hI hR hpre 7 rfl rfl rfl rfl (by kernel_rfl) ?_
            have o10 := (hR.old 10 (by kernel_rfl)).trans (show _ = Value.int .i64 ((b : Int)) from rfl)
            exact G_move rfl (.tmp 10) rfl o10 (hI.u0 hK rfl)
           refine .cons (fun V Ld a W hLi hpre hR hI KK hK => ?_) ?_
           ·
            refine G_gw hI hR hpre 7 rfl rfl rfl rfl (by kernel_rfl) ?_
            have f18 := hI.ef hR hpre 18 rfl rfl rfl (by kernel_rfl)
            have f19 := hI.ef hR hpre 19 rfl rfl rfl (by kernel_rfl)
            exact J_indexAddr rfl _ (.tmp 110) (.tmp 111) rfl (by rw [f18, f19]; go_simp <;> (intro h; omega)) (hI.u0 hK rfl)
           refine .cons (fun V Ld a W hLi hpre hR hI KK hK => ?_) ?_
           ·
            refine G_gw hI hR hpre 7 rfl rfl rfl rfl (by kernel_rfl) ?_
            have f20 := hI.ef hR hpre 20 rfl rfl rfl (by kernel_rfl)
            exact J_fieldAddr rfl _ (.tmp 112) 0 rfl (by rw [f20]; go_simp) (hI.u0 hK rfl)
           refine .cons (fun V Ld a W hLi hpre hR hI KK hK => ?_) ?_
           ·
            refine G_gw hI hR hpre 7 rfl rfl rfl rfl (by kernel_rfl) ?_
            have f21 := hI.ef hR hpre 21 rfl rfl rfl (by kernel_rfl)
            have c := (hI.st.bl.cell LAW.out).trans XBW.out
            exact J_load rfl _ (.tmp 113) rfl (by rw [f21]; go_simp) (hI.u0 hK rfl)
           refine .cons (fun V Ld a W hLi hpre hR hI KK hK => ?_) ?_
           ·
            refine G_gw hI hR hpre 7 rfl rfl rfl rfl (by kernel_rfl) ?_
            have f16 := hI.ef hR hpre 16 rfl rfl rfl (by kernel_rfl)
            have f22 := hI.ef hR hpre 22 rfl rfl rfl (by kernel_rfl)
            refine J_call rfl _ _ _ rfl enter_tot (by simp only [List.map_toArray, List.map_cons, List.map_nil, f16, f22]) (HTO.out W hI.st.bl (cAt C b).id) ?_
            rintro e w' ⟨rfl, hb⟩
            exact ⟨_, rfl, hK _ _ (hI.put (R := Bl) hb 23 rfl rfl (hI.st.to hb))⟩
           refine .cons (fun V Ld a W hLi hpre hR hI KK hK => ?_) ?_
           ·
            refine G_gw hI hR hpre 7 rfl rfl rfl rfl (by kernel_rfl) ?_
            have f15 := hI.ef hR hpre 15 rfl rfl rfl (by kernel_rfl)
            have f23 := hI.ef hR hpre 23 rfl rfl rfl (by kernel_rfl)
            exact J_binOp rfl .lss _ (.tmp 107) (.tmp 115) _ rfl (by rw [f15, f23]; exact bt_lss _ _ _ _ W J3.out) (hI.u0 hK rfl)
           refine .cons (fun V Ld a W hLi hpre hR hI KK hK => ?_) ?_
           ·
            refine G_gw hI hR hpre 3 rfl rfl rfl rfl (by kernel_rfl) ?_
            have f7 := hI.ef hR hpre 7 rfl rfl rfl (by kernel_rfl)
            have f24 := hI.ef hR hpre 24 rfl rfl rfl (by kernel_rfl)
            exact G_pick rfl (.tmp 99) (.tmp 116) (.const (.bool false)) rfl f7 (show _ = _ from f24) (hI.u0 hK rfl)
           refine .cons (fun V Ld a W hLi hpre hR hI KK hK => ?_) trivial
           ·
            have f3 := hI.ef hR hpre 3 rfl rfl rfl (by kernel_rfl)
            have f25 := hI.ef hR hpre 25 rfl rfl rfl (by kernel_rfl)
            exact G_pick rfl (.tmp 95) (.const (.bool true)) (.tmp 117) rfl f3 (show _ = _ from f25) (hI.u0 hK rfl)
          case refine_3 =>
           intro V Ld w9 hLd hI
           have e9 : V 26 = .bool true := hI.val 26 _ rfl (hLd 26 (by decide))
           have hb9 := hI.st.bl
           clear hI hLd
           simp only [finL, putL, Act.put, Nat.reduceAdd]
           rw [e9]
           clear e9
           generalize V 0 = v0, V 1 = v1
           generalize V 2 = v2, V 3 = v3
           generalize V 4 = v4, V 5 = v5
           generalize V 6 = v6, V 7 = v7
           generalize V 8 = v8, V 9 = v9
           generalize V 10 = v10, V 11 = v11
           generalize V 12 = v12, V 13 = v13
           generalize V 14 = v14, V 15 = v15
           generalize V 16 = v16, V 17 = v17
           generalize V 18 = v18, V 19 = v19
           generalize V 20 = v20, V 21 = v21
           generalize V 22 = v22, V 23 = v23
           generalize V 24 = v24, V 25 = v25
           clear V
           simp only [List.setIfInBounds_toArray, List.set_cons_succ, List.set_cons_zero]
           have HBF := Lib.hid (below_trans HBW9.out hb9)
           clear hb9
           go_wp2_with fail
           go_roundw
           case rel => exact ⟨j + 1, by omega, by go_num, by rw [HN.out], HBF.out⟩
           case measure => simp [intOf] <;> omega
         ·
          have J3 := Lib.hid (show (casN K (cAt C b).id : Int) ≤ (casN K (cAt C j).id : Int) by omega)
          clear hc
          have HN := Lib.hid (show bstI K C r o (j + 1) = (b : Int) from bst_n HCAN.out HBE.out (bet_e0 J2.out J3.out))
          go_upto_region 17 with fail
          refine wp_region_J2 (GI (R := Bl) [Pr.eq (.int .i64 ((loadN K (cAt C j).id : Int))), Pr.eq (.int .i64 ((loadN K (cAt C b).id : Int))), Pr.eq (.bool false), Pr.eq (.bool false), Pr.eq (.int .i64 ((loadN K (cAt C j).id : Int))), Pr.eq (.int .i64 ((loadN K (cAt C b).id : Int))), Pr.eq (.bool true), Pr.eq (.bool true), Pr.eq (.agg #[.slice (some ⟨ab, ao, none⟩) C.length ca, .slice B K.length cb]), Pr.eq (.pointer (some ⟨bx, 0, none⟩)), Pr.eq (.slice (some ⟨ab, ao, none⟩) C.length ca), Pr.eq (.int .i64 ((j : Int))), Pr.eq (.pointer (some ⟨ab, ao + j * 3, none⟩)), Pr.eq (.pointer (some ⟨ab, ao + j * 3, none⟩)), Pr.eq (.int .i64 ((cAt C j).id)), Pr.eq (.int .i64 ((casN K (cAt C j).id : Int))), Pr.eq (.agg #[.slice (some ⟨ab, ao, none⟩) C.length ca, .slice B K.length cb]), Pr.eq (.pointer (some ⟨bx, 0, none⟩)), Pr.eq (.slice (some ⟨ab, ao, none⟩) C.length ca), Pr.eq (.int .i64 ((b : Int))), Pr.eq (.pointer (some ⟨ab, ao + b * 3, none⟩)), Pr.eq (.pointer (some ⟨ab, ao + b * 3, none⟩)), Pr.eq (.int .i64 ((cAt C b).id)), Pr.eq (.int .i64 ((casN K (cAt C b).id : Int))), Pr.eq (.bool false), Pr.eq (.bool false), Pr.eq (.bool false)] (GrS w9)) (by kernel_rfl) (by kernel_rfl) (by kernel_rfl) ?_ ?_ ?_
          case refine_1 => exact fun V => GI.start (GrS.start _ _ _)
          case refine_2 =>
           refine .cons (fun V Ld a W hLi hpre hR hI KK hK => ?_) ?_
           ·
            have o12 := (hR.old 12 (by kernel_rfl)).trans (show _ = Value.int .i64 ((loadN K (cAt C j).id : Int)) from rfl)
            exact G_move rfl (.tmp 12) rfl o12 (hI.u0 hK rfl)
           refine .cons (fun V Ld a W hLi hpre hR hI KK hK => ?_) ?_
           ·
            have o13 := (hR.old 13 (by kernel_rfl)).trans (show _ = Value.int .i64 ((loadN K (cAt C b).id : Int)) from rfl)
            exact G_move rfl (.tmp 13) rfl o13 (hI.u0 hK rfl)
           refine .cons (fun V Ld a W hLi hpre hR hI KK hK => ?_) ?_
           ·
            have f0 := hI.ef hR hpre 0 rfl rfl rfl (by kernel_rfl)
            have f1 := hI.ef hR hpre 1 rfl rfl rfl (by kernel_rfl)
            exact J_binOp rfl .lss _ (.tmp 92) (.tmp 93) _ rfl (by rw [f0, f1]; exact bf_lss _ _ _ _ W J1.out) (hI.u0 hK rfl)
           refine .mf 2 rfl rfl rfl rfl rfl (by kernel_rfl) rfl ?_
           refine .cons (fun V Ld a W hLi hpre hR hI KK hK => ?_) ?_
           ·
            refine G_gw hI hR hpre 3 rfl rfl rfl rfl (by kernel_rfl) ?_
            have o12 := (hR.old 12 (by kernel_rfl)).trans (show _ = Value.int .i64 ((loadN K (cAt C j).id : Int)) from rfl)
            exact G_move rfl (.tmp 12) rfl o12 (hI.u0 hK rfl)
           refine .cons (fun V Ld a W hLi hpre hR hI KK hK => ?_) ?_
           ·
            refine G_gw hI hR hpre 3 rfl rfl rfl rfl (by kernel_rfl) ?_
            have o13 := (hR.old 13 (by kernel_rfl)).trans (show _ = Value.int .i64 ((loadN K (cAt C b).id : Int)) from rfl)
            exact G_move rfl (.tmp 13) rfl o13 (hI.u0 hK rfl)
           refine .cons (fun V Ld a W hLi hpre hR hI KK hK => ?_) ?_
           ·
            refine G_gw hI hR hpre 3 rfl rfl rfl rfl (by kernel_rfl) ?_
            have f4 := hI.ef hR hpre 4 rfl rfl rfl (by kernel_rfl)
            have f5 := hI.ef hR hpre 5 rfl rfl rfl (by kernel_rfl)
            exact J_binOp rfl .eql _ (.tmp 96) (.tmp 97) _ rfl (by rw [f4, f5]; exact bt_eql _ _ _ _ W J2.out) (hI.u0 hK rfl)
           refine .cons (fun V Ld a W hLi hpre hR hI KK hK => ?_) ?_
           ·
            refine G_gw hI hR hpre 3 rfl rfl rfl rfl (by kernel_rfl) ?_
            have f6 := hI.ef hR hpre 6 rfl rfl rfl (by kernel_rfl)
            exact G_move rfl (.tmp 98) rfl f6 (hI.u0 hK rfl)
           refine .cons (fun V Ld a W hLi hpre hR hI KK hK => ?_) ?_
           ·
            refine G_gw hI hR hpre 7 rfl rfl rfl rfl (by kernel_rfl) ?_
            have o3 := (hR.old 3 (by kernel_rfl)).trans (show _ = Value.pointer (some ⟨bx, 0, none⟩) from rfl)
            exact J_load rfl _ (.tmp 3) rfl (by rw [o3]; exact ld_desk (HDW.out.below hI.st.bl)) (hI.u0 hK rfl)
           refine .cons (fun V Ld a W hLi hpre hR hI KK hK => ?_) ?_
           ·
            refine G_gw hI hR hpre 7 rfl rfl rfl rfl (by kernel_rfl) ?_
            have o3 := (hR.old 3 (by kernel_rfl)).trans (show _ = Value.pointer (some ⟨bx, 0, none⟩) from rfl)
            exact J_fieldAddr rfl _ (.tmp 3) 0 rfl (by rw [o3]; go_simp) (hI.u0 hK rfl)
           refine .cons (fun V Ld a W hLi hpre hR hI KK hK => ?_) ?_
           ·
            refine G_gw hI hR hpre 7 rfl rfl rfl rfl (by kernel_rfl) ?_
            have f9 := hI.ef hR hpre 9 rfl rfl rfl (by kernel_rfl)
            have c := (HDW.out.below hI.st.bl).c0
            exact J_load rfl _ (.tmp 101) rfl (by rw [f9]; go_simp) (hI.u0 hK rfl)
           refine .cons (fun V Ld a W hLi hpre hR hI KK hK => ?_) ?_
           ·
            refine G_gw hI hR hpre 7 rfl rfl rfl rfl (by kernel_rfl) ?_
            have o11 := (hR.old 11 (by kernel_rfl)).trans (show _ = Value.int .i64 ((j : Int)) from rfl)
            exact G_move rfl (.tmp 11) rfl o11 (hI.u0 hK rfl)
           refine .cons (fun V Ld a W hLi hpre hR hI KK hK => ?_) ?_
           ·
            refine G_gw hI hR hpre 7 rfl rfl rfl rfl (by kernel_rfl) ?_
            have f10 := hI.ef hR hpre 10 rfl rfl rfl (by kernel_rfl)
            have f11 := hI.ef hR hpre 11 rfl rfl rfl (by kernel_rfl)
            exact J_indexAddr rfl _ (.tmp 102) (.tmp 103) rfl (by rw [f10, f11]; go_simp <;> (intro h; omega)) (hI.u0 hK rfl)
           refine .cons (fun V Ld a W hLi hpre hR hI KK hK => ?_) ?_
           ·
            refine G_gw hI hR hpre 7 rfl rfl rfl rfl (by kernel_rfl) ?_
            have f12 := hI.ef hR hpre 12 rfl rfl rfl (by kernel_rfl)
            exact J_fieldAddr rfl _ (.tmp 104) 0 rfl (by rw [f12]; go_simp) (hI.u0 hK rfl)
           refine .cons (fun V Ld a W hLi hpre hR hI KK hK => ?_) ?_
           ·
            refine G_gw hI hR hpre 7 rfl rfl rfl rfl (by kernel_rfl) ?_
            have f13 := hI.ef hR hpre 13 rfl rfl rfl (by kernel_rfl)
            have c := (hI.st.bl.cell LAW.out).trans XJW.out
            exact J_load rfl _ (.tmp 105) rfl (by rw [f13]; go_simp) (hI.u0 hK rfl)
           refine .cons (fun V Ld a W hLi hpre hR hI KK hK => ?_) ?_
           ·
            refine G_gw hI hR hpre 7 rfl rfl rfl rfl (by kernel_rfl) ?_
            have f8 := hI.ef hR hpre 8 rfl rfl rfl (by kernel_rfl)
            have f14 := hI.ef hR hpre 14 rfl rfl rfl (by kernel_rfl)
            refine J_call rfl _ _ _ rfl enter_tot (by simp only [List.map_toArray, List.map_cons, List.map_nil, f8, f14]) (HTO.out W hI.st.bl (cAt C j).id) ?_
            rintro e w' ⟨rfl, hb⟩
            exact ⟨_, rfl, hK _ _ (hI.put (R := Bl) hb 15 rfl rfl (hI.st.to hb))⟩
           refine .cons (fun V Ld a W hLi hpre hR hI KK hK => ?_) ?_
           ·
            refine G_gw hI hR hpre 7 rfl rfl rfl rfl (by kernel_rfl) ?_
            have o3 := (hR.old 3 (by kernel_rfl)).trans (show _ = Value.pointer (some ⟨bx, 0, none⟩) from rfl)
            exact J_load rfl _ (.tmp 3) rfl (by rw [o3]; exact ld_desk (HDW.out.below hI.st.bl)) (hI.u0 hK rfl)
           refine .cons (fun V Ld a W hLi hpre hR hI KK hK => ?_) ?_
           ·
            refine G_gw hI hR hpre 7 rfl rfl rfl rfl (by kernel_rfl) ?_
            have o3 := (hR.old 3 (by kernel_rfl)).trans (show _ = Value.pointer (some ⟨bx, 0, none⟩) from rfl)
            exact J_fieldAddr rfl _ (.tmp 3) 0 rfl (by rw [o3]; go_simp) (hI.u0 hK rfl)
           refine .cons (fun V Ld a W hLi hpre hR hI KK hK => ?_) ?_
           ·
            refine G_gw hI hR hpre 7 rfl rfl rfl rfl (by kernel_rfl) ?_
            have f17 := hI.ef hR hpre 17 rfl rfl rfl (by kernel_rfl)
            have c := (HDW.out.below hI.st.bl).c0
            exact J_load rfl _ (.tmp 109) rfl (by rw [f17]; go_simp) (hI.u0 hK rfl)
           refine .cons (fun V Ld a W hLi hpre hR hI KK hK => ?_) ?_
           ·
            refine G_gw hI hR hpre 7 rfl rfl rfl rfl (by kernel_rfl) ?_
            have o10 := (hR.old 10 (by kernel_rfl)).trans (show _ = Value.int .i64 ((b : Int)) from rfl)
            exact G_move rfl (.tmp 10) rfl o10 (hI.u0 hK rfl)
           refine .cons (fun V Ld a W hLi hpre hR hI KK hK => ?_) ?_
           ·
            refine G_gw hI hR hpre 7 rfl rfl rfl rfl (by kernel_rfl) ?_
            have f18 := hI.ef hR hpre 18 rfl rfl rfl (by kernel_rfl)
            have f19 := hI.ef hR hpre 19 rfl rfl rfl (by kernel_rfl)
            exact J_indexAddr rfl _ (.tmp 110) (.tmp 111) rfl (by rw [f18, f19]; go_simp <;> (intro h; omega)) (hI.u0 hK rfl)
           refine .cons (fun V Ld a W hLi hpre hR hI KK hK => ?_) ?_
           ·
            refine G_gw hI hR hpre 7 rfl rfl rfl rfl (by kernel_rfl) ?_
            have f20 := hI.ef hR hpre 20 rfl rfl rfl (by kernel_rfl)
            exact J_fieldAddr rfl _ (.tmp 112) 0 rfl (by rw [f20]; go_simp) (hI.u0 hK rfl)
           refine .cons (fun V Ld a W hLi hpre hR hI KK hK => ?_) ?_
           ·
            refine G_gw hI hR hpre 7 rfl rfl rfl rfl (by kernel_rfl) ?_
            have f21 := hI.ef hR hpre 21 rfl rfl rfl (by kernel_rfl)
            have c := (hI.st.bl.cell LAW.out).trans XBW.out
            exact J_load rfl _ (.tmp 113) rfl (by rw [f21]; go_simp) (hI.u0 hK rfl)
           refine .cons (fun V Ld a W hLi hpre hR hI KK hK => ?_) ?_
           ·
            refine G_gw hI hR hpre 7 rfl rfl rfl rfl (by kernel_rfl) ?_
            have f16 := hI.ef hR hpre 16 rfl rfl rfl (by kernel_rfl)
            have f22 := hI.ef hR hpre 22 rfl rfl rfl (by kernel_rfl)
            refine J_call rfl _ _ _ rfl enter_tot (by simp only [List.map_toArray, List.map_cons, List.map_nil, f16, f22]) (HTO.out W hI.st.bl (cAt C b).id) ?_
            rintro e w' ⟨rfl, hb⟩
            exact ⟨_, rfl, hK _ _ (hI.put (R := Bl) hb 23 rfl rfl (hI.st.to hb))⟩
           refine .cons (fun V Ld a W hLi hpre hR hI KK hK => ?_) ?_
           ·
            refine G_gw hI hR hpre 7 rfl rfl rfl rfl (by kernel_rfl) ?_
            have f15 := hI.ef hR hpre 15 rfl rfl rfl (by kernel_rfl)
            have f23 := hI.ef hR hpre 23 rfl rfl rfl (by kernel_rfl)
            exact J_binOp rfl .lss _ (.tmp 107) (.tmp 115) _ rfl (by rw [f15, f23]; exact bf_lss _ _ _ _ W J3.out) (hI.u0 hK rfl)
           refine .cons (fun V Ld a W hLi hpre hR hI KK hK => ?_) ?_
           ·
            refine G_gw hI hR hpre 3 rfl rfl rfl rfl (by kernel_rfl) ?_
            have f7 := hI.ef hR hpre 7 rfl rfl rfl (by kernel_rfl)
            have f24 := hI.ef hR hpre 24 rfl rfl rfl (by kernel_rfl)
            exact G_pick rfl (.tmp 99) (.tmp 116) (.const (.bool false)) rfl f7 (show _ = _ from f24) (hI.u0 hK rfl)
           refine .cons (fun V Ld a W hLi hpre hR hI KK hK => ?_) trivial
           ·
            have f3 := hI.ef hR hpre 3 rfl rfl rfl (by kernel_rfl)
            have f25 := hI.ef hR hpre 25 rfl rfl rfl (by kernel_rfl)
            exact G_pick rfl (.tmp 95) (.const (.bool true)) (.tmp 117) rfl f3 (show _ = _ from f25) (hI.u0 hK rfl)
          case refine_3 =>
           intro V Ld w9 hLd hI
           have e9 : V 26 = .bool false := hI.val 26 _ rfl (hLd 26 (by decide))
           have hb9 := hI.st.bl
           clear hI hLd
           simp only [finL, putL, Act.put, Nat.reduceAdd]
           rw [e9]
           clear e9
           generalize V 0 = v0, V 1 = v1
           generalize V 2 = v2, V 3 = v3
           generalize V 4 = v4, V 5 = v5
           generalize V 6 = v6, V 7 = v7
           generalize V 8 = v8, V 9 = v9
           generalize V 10 = v10, V 11 = v11
           generalize V 12 = v12, V 13 = v13
           generalize V 14 = v14, V 15 = v15
           generalize V 16 = v16, V 17 = v17
           generalize V 18 = v18, V 19 = v19
           generalize V 20 = v20, V 21 = v21
           generalize V 22 = v22, V 23 = v23
           generalize V 24 = v24, V 25 = v25
           clear V
           simp only [List.setIfInBounds_toArray, List.set_cons_succ, List.set_cons_zero]
           have HBF := Lib.hid (below_trans HBW9.out hb9)
           clear hb9
           go_wp2_with fail
           go_roundw
           case rel => exact ⟨j + 1, by omega, by go_num, by rw [HN.out], HBF.out⟩
           case measure => simp [intOf] <;> omega
        ·
         have J1 := Lib.hid (show (loadN K (cAt C b).id : Int) ≤ (loadN K (cAt C j).id : Int) by omega)
         have J2 := Lib.hid (show ((loadN K (cAt C j).id : Int) == (loadN K (cAt C b).id : Int)) = false from beq_eq_false_iff_ne.2 (by omega))
         clear hl
         have HN := Lib.hid (show bstI K C r o (j + 1) = (b : Int) from bst_n HCAN.out HBE.out (bet_gt J1.out J2.out))
         go_upto_region 17 with fail
         refine wp_region_J2 (GI (R := Bl) [Pr.eq (.int .i64 ((loadN K (cAt C j).id : Int))), Pr.eq (.int .i64 ((loadN K (cAt C b).id : Int))), Pr.eq (.bool false), Pr.eq (.bool false), Pr.eq (.int .i64 ((loadN K (cAt C j).id : Int))), Pr.eq (.int .i64 ((loadN K (cAt C b).id : Int))), Pr.eq (.bool false), Pr.eq (.bool false), Pr.eq undef, Pr.eq undef, Pr.eq undef, Pr.eq undef, Pr.eq undef, Pr.eq undef, Pr.eq undef, Pr.eq undef, Pr.eq undef, Pr.eq undef, Pr.eq undef, Pr.eq undef, Pr.eq undef, Pr.eq undef, Pr.eq undef, Pr.eq undef, Pr.eq undef, Pr.eq (.bool false), Pr.eq (.bool false)] (GrS w9)) (by kernel_rfl) (by kernel_rfl) (by kernel_rfl) ?_ ?_ ?_
         case refine_1 => exact fun V => GI.start (GrS.start _ _ _)
         case refine_2 =>
          refine .cons (fun V Ld a W hLi hpre hR hI KK hK => ?_) ?_
          ·
           have o12 := (hR.old 12 (by kernel_rfl)).trans (show _ = Value.int .i64 ((loadN K (cAt C j).id : Int)) from rfl)
           exact G_move rfl (.tmp 12) rfl o12 (hI.u0 hK rfl)
          refine .cons (fun V Ld a W hLi hpre hR hI KK hK => ?_) ?_
          ·
           have o13 := (hR.old 13 (by kernel_rfl)).trans (show _ = Value.int .i64 ((loadN K (cAt C b).id : Int)) from rfl)
           exact G_move rfl (.tmp 13) rfl o13 (hI.u0 hK rfl)
          refine .cons (fun V Ld a W hLi hpre hR hI KK hK => ?_) ?_
          ·
           have f0 := hI.ef hR hpre 0 rfl rfl rfl (by kernel_rfl)
           have f1 := hI.ef hR hpre 1 rfl rfl rfl (by kernel_rfl)
           exact J_binOp rfl .lss _ (.tmp 92) (.tmp 93) _ rfl (by rw [f0, f1]; exact bf_lss _ _ _ _ W J1.out) (hI.u0 hK rfl)
          refine .mf 2 rfl rfl rfl rfl rfl (by kernel_rfl) rfl ?_
          refine .cons (fun V Ld a W hLi hpre hR hI KK hK => ?_) ?_
          ·
           refine G_gw hI hR hpre 3 rfl rfl rfl rfl (by kernel_rfl) ?_
           have o12 := (hR.old 12 (by kernel_rfl)).trans (show _ = Value.int .i64 ((loadN K (cAt C j).id : Int)) from rfl)
           exact G_move rfl (.tmp 12) rfl o12 (hI.u0 hK rfl)
          refine .cons (fun V Ld a W hLi hpre hR hI KK hK => ?_) ?_
          ·
           refine G_gw hI hR hpre 3 rfl rfl rfl rfl (by kernel_rfl) ?_
           have o13 := (hR.old 13 (by kernel_rfl)).trans (show _ = Value.int .i64 ((loadN K (cAt C b).id : Int)) from rfl)
           exact G_move rfl (.tmp 13) rfl o13 (hI.u0 hK rfl)
          refine .cons (fun V Ld a W hLi hpre hR hI KK hK => ?_) ?_
          ·
           refine G_gw hI hR hpre 3 rfl rfl rfl rfl (by kernel_rfl) ?_
           have f4 := hI.ef hR hpre 4 rfl rfl rfl (by kernel_rfl)
           have f5 := hI.ef hR hpre 5 rfl rfl rfl (by kernel_rfl)
           exact J_binOp rfl .eql _ (.tmp 96) (.tmp 97) _ rfl (by rw [f4, f5]; exact bf_eql _ _ _ _ W J2.out) (hI.u0 hK rfl)
          refine .cons (fun V Ld a W hLi hpre hR hI KK hK => ?_) ?_
          ·
           refine G_gw hI hR hpre 3 rfl rfl rfl rfl (by kernel_rfl) ?_
           have f6 := hI.ef hR hpre 6 rfl rfl rfl (by kernel_rfl)
           exact G_move rfl (.tmp 98) rfl f6 (hI.u0 hK rfl)
          refine .un 7 rfl rfl rfl rfl (by kernel_rfl) rfl ?_
          refine .un 7 rfl rfl rfl rfl (by kernel_rfl) rfl ?_
          refine .un 7 rfl rfl rfl rfl (by kernel_rfl) rfl ?_
          refine .un 7 rfl rfl rfl rfl (by kernel_rfl) rfl ?_
          refine .un 7 rfl rfl rfl rfl (by kernel_rfl) rfl ?_
          refine .un 7 rfl rfl rfl rfl (by kernel_rfl) rfl ?_
          refine .un 7 rfl rfl rfl rfl (by kernel_rfl) rfl ?_
          refine .un 7 rfl rfl rfl rfl (by kernel_rfl) rfl ?_
          refine .un 7 rfl rfl rfl rfl (by kernel_rfl) rfl ?_
          refine .un 7 rfl rfl rfl rfl (by kernel_rfl) rfl ?_
          refine .un 7 rfl rfl rfl rfl (by kernel_rfl) rfl ?_
          refine .un 7 rfl rfl rfl rfl (by kernel_rfl) rfl ?_
          refine .un 7 rfl rfl rfl rfl (by kernel_rfl) rfl ?_
          refine .un 7 rfl rfl rfl rfl (by kernel_rfl) rfl ?_
          refine .un 7 rfl rfl rfl rfl (by kernel_rfl) rfl ?_
          refine .un 7 rfl rfl rfl rfl (by kernel_rfl) rfl ?_
          refine .un 7 rfl rfl rfl rfl (by kernel_rfl) rfl ?_
          refine .cons (fun V Ld a W hLi hpre hR hI KK hK => ?_) ?_
          ·
           refine G_gw hI hR hpre 3 rfl rfl rfl rfl (by kernel_rfl) ?_
           have f7 := hI.ef hR hpre 7 rfl rfl rfl (by kernel_rfl)
           exact G_pick rfl (.tmp 99) (.tmp 116) (.const (.bool false)) rfl f7 (show _ = _ from rfl) (hI.u0 hK rfl)
          refine .cons (fun V Ld a W hLi hpre hR hI KK hK => ?_) trivial
          ·
           have f3 := hI.ef hR hpre 3 rfl rfl rfl (by kernel_rfl)
           have f25 := hI.ef hR hpre 25 rfl rfl rfl (by kernel_rfl)
           exact G_pick rfl (.tmp 95) (.const (.bool true)) (.tmp 117) rfl f3 (show _ = _ from f25) (hI.u0 hK rfl)
         case refine_3 =>
          intro V Ld w9 hLd hI
          have e9 : V 26 = .bool false := hI.val 26 _ rfl (hLd 26 (by decide))
          have hb9 := hI.st.bl
          clear hI hLd
          simp only [finL, putL, Act.put, Nat.reduceAdd]
          rw [e9]
          clear e9
          generalize V 0 = v0, V 1 = v1
          generalize V 2 = v2, V 3 = v3
          generalize V 4 = v4, V 5 = v5
          generalize V 6 = v6, V 7 = v7
          generalize V 8 = v8, V 9 = v9
          generalize V 10 = v10, V 11 = v11
          generalize V 12 = v12, V 13 = v13
          generalize V 14 = v14, V 15 = v15
          generalize V 16 = v16, V 17 = v17
          generalize V 18 = v18, V 19 = v19
          generalize V 20 = v20, V 21 = v21
          generalize V 22 = v22, V 23 = v23
          generalize V 24 = v24, V 25 = v25
          clear V
          simp only [List.setIfInBounds_toArray, List.set_cons_succ, List.set_cons_zero]
          have HBF := Lib.hid (below_trans HBW9.out hb9)
          clear hb9
          go_wp2_with fail
          go_roundw
          case rel => exact ⟨j + 1, by omega, by go_num, by rw [HN.out], HBF.out⟩
          case measure => simp [intOf] <;> omega
    ·
     obtain rfl : C.length = j := by omega
     have j1 : ¬ (C.length : Int) < (C.length : Int) := by omega
     have HV := Lib.hid HRES.out
     generalize bstI K C r o C.length = q at *
     go_wp2_with fail
     go_ret
     exact RetB.int HV.out HBT.out
end Go.Proofs.Ytjckpammcgeloaa
