/-
  CounsellorMade's walk.
  A slice of numbers that came in reads as a list.
  Conditions: those that each theorem names.
-/
import Derived.Test.YtjckpammcgeloaaM12
import Derived.Laws.IdiomStrings
set_option linter.unusedVariables false
set_option linter.unusedSimpArgs false
namespace Go.Proofs.Ytjckpammcgeloaa
open Go.RowKit

theorem info_u8 : (Try.prog.info? 5).map (fun i => (i.zero, i.size, i.bytes)) = some (some (.int .u8 0), 1, 1) := by kernel_rfl
/-- make of n bytes. -/
theorem make_u8 {ops : Array Oper} {rest : List Oper} {o : Oper} {a : Act} {Q : Exit → Act → World → Prop} (hg : o.guard = none) (l c : Operand) (hop : o.op = Op.makeSlice 46 l c)
    {w : World} {m : Int} (n : Nat) (hl : a.eval l = .int .i64 m) (hc : a.eval c = .int .i64 m) (hm : m = (n : Int)) (hn : n ≤ 100000)
    (hK : ∀ w', w'.heap[w.heap.size]? = some (.cells (List.replicate n (Value.int .u8 0)).toArray 5 (0, 0)) → Below w.heap.size w w' → wpList Try.prog ops Q rest (a.put o.dst (.slice (some ⟨w.heap.size, 0, none⟩) n n)) w') :
    wpList Try.prog ops Q (o :: rest) a w := by
  obtain ⟨i0, hi, hz0, hz1, hz2⟩ := info_parts info_u8
  refine wpList_make_full w hg l c 46 hop w.heap.size 5 i0 _ 1 Try.underlying46 hi hz0 hz1 .i64 .i64 m m n hl hc hm hm (by rw [hz2]; omega) (by simp only [maxLen]; omega) (Nat.le_refl _) ?_
  intro w' hown hgr
  refine hK w' ?_ ⟨hgr.os, hgr.tape, hgr.output, hgr.size, fun k hk => hgr.block k hk (by simp)⟩
  rw [Nat.mul_one, show (Value.int .u8 0).cells = #[Value.int .u8 0] from rfl, toList_madeCells_one] at hown
  rcases hown.2 with ⟨h0, _⟩ | ⟨g', cap, cur, hv, hg2, hh, hnc, hcm, hcs, htk⟩
  · cases h0
  · injection hv with h1 h2 h3
    injection h1 with h1
    injection h1 with h1
    subst h1; subst h3
    rw [hh, ← htk, Nat.mul_one, List.take_of_length_le (by first | (simp; done) | (simp; omega))]
theorem md_co {w W : World} {Dd n4 base ub uo uc n vc : Nat} {R : List Int} {vA : Option Addr} {C : List CouD} {K : List CaseD} (h : MdS w W Dd n4 base R (.slice (some ⟨ub, uo, none⟩) C.length uc) (.slice vA n vc) ⟨C, K⟩) (hc : 0 < C.length) : W.cell? ⟨ub, uo + 1, none⟩ = some (.string (cAt C 0).o) := by
  obtain ⟨b, off, x, e, -, -, -, c1, -, hx⟩ := (DeskR.cou (C := C) (K := K) h.o.o.read).1.elem hc
  injection e with e
  injection e with e1 e2
  subst e1 e2
  rw [← hx.o, ← c1]
theorem made17 {w w12 W2 : World} {Dd n4 base ub uo uc vc n : Nat} {R : List Int} {vA : Option Addr} {vz : Value} {C : List CouD} {K K' : List CaseD} {o : Obj} {co : ByteArray} (h : MdS w w12 Dd n4 base R (.slice (some ⟨ub, uo, none⟩) C.length uc) (.slice vA n vc) ⟨C, K⟩) (hdc : DeskCell W2 n4 (.slice (some ⟨ub, uo, none⟩) C.length uc) (.slice vA n vc)) (hm : MdS w (W2.setCell ⟨n4, 1, none⟩ vz) Dd n4 base R (.slice (some ⟨ub, uo, none⟩) C.length uc) vz ⟨C, K'⟩) (hv : ∃ A n c, vz = .slice A n c) (hc : 0 < C.length) (hco : (cAt C 0).o = co) :
    (∀ W, (W = w12.drew ∨ W = w12.drew.alloc o ∨ W = W2) → W.cell? ⟨n4, 1, none⟩ = some (.slice vA n vc)) ∧ (∀ W, (W = w12.drew ∨ W = w12.drew.alloc o ∨ W = W2 ∨ W = W2.setCell ⟨n4, 1, none⟩ vz) → W.cell? ⟨n4, 0, none⟩ = some (.slice (some ⟨ub, uo, none⟩) C.length uc) ∧ W.cell? ⟨ub, uo + 1, none⟩ = some (.string co)) := by
  obtain ⟨zA, zn, zc, rfl⟩ := hv
  have h0 := h.below (Below.drew (Below.refl _ _))
  have h1 := h0.below (below_alloc _ o)
  have hne : ub ≠ n4 := fun e => h.o.nu (by show some ub = _; rw [e])
  have e3 := md_co hm hc
  have e2 : W2.cell? ⟨ub, uo + 1, none⟩ = some (.string (cAt C 0).o) := (World.cell?_of_block (w := W2) (Below.heap_setCell W2 ⟨n4, 1, none⟩ _ ub hne)).symm.trans e3
  subst hco
  refine ⟨fun W hW => ?_, fun W hW => ?_⟩
  · rcases hW with rfl | rfl | rfl
    · exact h0.x.c1
    · exact h1.x.c1
    · exact hdc.c1
  · rcases hW with rfl | rfl | rfl | rfl
    · exact ⟨h0.x.c0, md_co h0 hc⟩
    · exact ⟨h1.x.c0, md_co h1 hc⟩
    · exact ⟨hdc.c0, e2⟩
    · exact ⟨hm.x.c0, e3⟩
def ksLen (n4 : Nat) (W : World) : Nat := match W.cell? ⟨n4, 1, none⟩ with | some (.slice _ n _) => n | _ => 0
theorem ksLen_of {n4 : Nat} {W : World} {A : Option Addr} {n c : Nat} (h : W.cell? ⟨n4, 1, none⟩ = some (.slice A n c)) : ksLen n4 W = n := by unfold ksLen; rw [h]
set_option maxRecDepth 100000 in
set_option maxHeartbeats 4000000 in
theorem counsellorMade_walk (A0 : Option Addr) (L0 : List Int) (c0 : Nat) (n0 : Int) (w : World)
    (hl0 : L0.length ≤ maxLen) (hI0 : IntsAt w A0 L0) (_ : ∀ n ∈ L0, -9223372036854775808 ≤ n ∧ n ≤ 9223372036854775807) (_ : -9223372036854775808 ≤ n0 ∧ n0 ≤ 9223372036854775807) :
    Calls Try.prog 7 #[.slice A0 L0.length c0, .int .i64 n0] w (RetB (.bool true) w) := by
  have hL := light_any A0 L0.length c0 w
  by_cases hlight : (L0.length : Int) ≤ 500
  · rw [decide_eq_true hlight] at hL
    have HLt := Lib.hid hL
    clear hL hlight
    go_enter Try.func7, Try.ntmps7
    go_wp2_with fail
    refine ret_pure HLt.out ?_
    clear HLt
    go_wp2_with fail
    refine (roll_any A0 L0 c0 _ hl0 hI0).mono ?_
    rintro e w1 ⟨Dd, rfl, hDs, hD, hb1⟩
    have hDl := hD.lt
    clear hI0
    go_wp2_with fail
    refine (playDesk_any Dd L0 w1 hD).mono ?_
    rintro e w2 ⟨u, v, D, R, rfl, ho, hpc, hcl, hpk, hkl, hd2, hg2⟩
    have hS0 := MdS.start hb1 hDs hDl ho hd2 hg2
    obtain ⟨uA, uc, vA, vc, rfl, rfl⟩ := hS0.forms
    have HS := Lib.hid hS0
    obtain ⟨C, K⟩ := D
    have C4 : C.length ≤ 4 := hcl
    have K6 : K.length ≤ 6 := hkl
    have HSM := Lib.hid (show DeskS ⟨C, K⟩ from PlC.small hpc hpk (by omega) (by omega))
    have HCL := Lib.hid (show C.length ≤ 900 by omega)
    have HKL := Lib.hid (show K.length ≤ 900 by omega)
    have HOS := Lib.hid (fun (h : 0 < C.length) => show (cAt C 0).o.size ≤ 1000 from by rcases (hpc 0 h).o with f | f <;> (show (cAt C 0).o.size ≤ _; rw [f]) <;> decide)
    clear hS0 ho hpc hcl hpk hkl hd2 hg2 hD hb1 hDs hDl
    go_upto_region 5 with fail
    generalize w1.heap.size = base at *
    generalize hn4 : w2.heap.size = n4 at *
    refine gen_world fun w5 hw5 => ?_
    rw [← hw5] at HS
    clear hw5 hn4
    go_wp2_with fail
    refine gen_calls fun w6 hw => ?_
    have hb : Below w5.heap.size w5 w6 := by rw [hw]; exact below_alloc _ _
    have HI := Lib.hid (show IntsAt w6 (some ⟨w5.heap.size, 0, none⟩) [2, 4, 6, 8, 1] from by rw [hw]; exact lit_ints w5 [2, 4, 6, 8, 1])
    have HN := Lib.hid (show ∀ b off, (some ⟨w5.heap.size, 0, none⟩ : Option Addr) = some ⟨b, off, none⟩ → b ≠ Dd from fun b off e => by injection e with e; injection e with e1 e2; have := HS.out.d.lt; omega)
    replace HS := Lib.hid (HS.out.below hb)
    clear hw hb
    refine (pickQ_any Dd R _ [2, 4, 6, 8, 1] 5 w6 HS.out.d HI.out HN.out (by simp) (by simp)).mono ?_
    rintro e w7 ⟨rfl, hd, hg⟩
    replace HS := Lib.hid (HS.out.dice hd hg)
    generalize PickV [2, 4, 6, 8, 1] R = id at *
    generalize R.tail = R at *
    clear hd hg HI HN
    go_wp2_with fail
    refine gen_calls fun w8 hw => ?_
    have hb : Below w7.heap.size w7 w8 := by rw [hw]; exact below_alloc _ _
    have HI := Lib.hid (show ElP ES (fun b => b ≠ Dd) w8 (some ⟨w7.heap.size, 0, none⟩) 4 [bHr, bLegal, bOther, bNil] from by rw [hw]; exact (lit_strs w7 [bHr, bLegal, bOther, bNil] 4 rfl (by simp)).mono fun b _ e => by have := HS.out.d.lt; omega)
    replace HS := Lib.hid (HS.out.below hb)
    clear hw hb
    refine (word_any Dd R _ [bHr, bLegal, bOther, bNil] 4 w8 HS.out.d HI.out (by simp) (by simp)).mono ?_
    rintro e w9 ⟨rfl, hd, hg⟩
    replace HS := Lib.hid (HS.out.dice hd hg)
    have HRS := Lib.hid (word_small sm_ro (by simp) R)
    generalize wordV [bHr, bLegal, bOther, bNil] R = role at *
    generalize R.tail = R at *
    clear hd hg HI
    go_wp2_with fail
    refine gen_calls fun w10 hw => ?_
    have hb : Below w9.heap.size w9 w10 := by rw [hw]; exact below_alloc _ _
    have HI := Lib.hid (show ElP ES (fun b => b ≠ Dd) w10 (some ⟨w9.heap.size, 0, none⟩) 4 [bAnn, bBob, bCid, bDan] from by rw [hw]; exact (lit_strs w9 [bAnn, bBob, bCid, bDan] 4 rfl (by simp)).mono fun b _ e => by have := HS.out.d.lt; omega)
    replace HS := Lib.hid (HS.out.below hb)
    clear hw hb
    refine (word_any Dd R _ [bAnn, bBob, bCid, bDan] 4 w10 HS.out.d HI.out (by simp) (by simp)).mono ?_
    rintro e w11 ⟨rfl, hd, hg⟩
    replace HS := Lib.hid (HS.out.dice hd hg)
    have HWS := Lib.hid (word_small sm_wh (by simp) R)
    generalize wordV [bAnn, bBob, bCid, bDan] R = who at *
    generalize R.tail = R at *
    clear hd hg HI
    go_wp2_with fail
    refine gen_calls fun w12 hw => ?_
    have hb : Below w11.heap.size w11 w12 := by rw [hw]; exact below_alloc _ _
    have HI := Lib.hid (show IntsAt w12 (some ⟨w11.heap.size, 0, none⟩) [50, 9, 0, -1, 1099511627776, 1099511627777] from by rw [hw]; exact lit_ints w11 [50, 9, 0, -1, 1099511627776, 1099511627777])
    have HN := Lib.hid (show ∀ b off, (some ⟨w11.heap.size, 0, none⟩ : Option Addr) = some ⟨b, off, none⟩ → b ≠ Dd from fun b off e => by injection e with e; injection e with e1 e2; have := HS.out.d.lt; omega)
    replace HS := Lib.hid (HS.out.below hb)
    clear hw hb
    refine (pickQ_any Dd R _ [50, 9, 0, -1, 1099511627776, 1099511627777] 6 w12 HS.out.d HI.out HN.out (by simp) (by simp)).mono ?_
    rintro e w13 ⟨rfl, hd, hg⟩
    replace HS := Lib.hid (HS.out.dice hd hg)
    generalize PickV [50, 9, 0, -1, 1099511627776, 1099511627777] R = tm at *
    generalize R.tail = R at *
    clear hd hg HI HN
    have HWM := Lib.hid (show who.size ≤ maxLen by unfold maxLen; have := HWS.out; omega)
    have HRM := Lib.hid (show role.size ≤ maxLen by unfold maxLen; have := HRS.out; omega)
    have x0 := HS.out.x.c0
    have x1 := HS.out.x.c1
    have xl := HS.out.x.lt
    go_wp2_with fail
    refine ret_below (agree_any _ who role tm id ⟨C, K⟩ _ HS.out.o.o.read HSM.out (show K.length ≤ 800 by omega) HWM.out HRM.out) fun w14 hb => ?_
    replace HS := Lib.hid (HS.out.below hb)
    clear hb x0 x1 xl
    go_wp2_with fail
    refine (next_any Dd R 6 w14 HS.out.d (by omega)).mono ?_
    rintro e w15 ⟨rfl, hd, hg⟩
    obtain ⟨m1, m2⟩ := nextV_range R 6 (by omega)
    replace HS := Lib.hid (HS.out.dice hd hg)
    generalize nextV R 6 = qs at *
    generalize R.tail = R at *
    clear hd hg
    go_upto_block 0 with fail
    go_cut [9] (fun s9 wx => ∃ R u v D ws, s9 = .string ws ∧ ws.size ≤ maxLen ∧ MdS w wx Dd n4 base R u v D ∧ DeskS D ∧ D.ks.length ≤ 800)
    case rest =>
      clear HS HSM HKL HCL HOS C4 K6 m1 m2
      obtain ⟨Rx, uu, vv, DD, ws, rfl, hws, ht, hds, hdk⟩ := hcut
      have HT := Lib.hid ht
      have HDS := Lib.hid hds
      have HDK := Lib.hid hdk
      have HWM := Lib.hid hws
      clear ht hds hdk hws
      go_upto_region 25 with fail
      refine wp_region_J2 (GI (R := fun _ _ => True) [Pr.eq (.bool true), Pr.eq (.bool true), Pr.eq (.agg #[uu, vv]), Pr.eq (.string ws), Pr.eq (.string role), Pr.eq (.pointer (some ⟨Dd, 0, none⟩)), Pr.eq (.int .i64 tm), Pr.any, intPr, Pr.eq (.int .i64 id), Pr.eq (.bool true), Pr.eq (.bool true), Pr.eq (.bool true)] (R25 (fun W => ∃ R, MdS w W Dd n4 base R uu vv DD) (intL 2 [tm, 60] Dd))) (by kernel_rfl) (by kernel_rfl) (by kernel_rfl) ?_ ?_ ?_
      case refine_1 => exact fun V => GI.start (R25.start ⟨_, HT.out.below (Below.drew (Below.refl _ _))⟩ _)
      case refine_2 =>
        refine JSteps.cons (fun V Ld a W hLi hpre hR hI KK hK => ?_) ?_
        · refine J_call rfl _ _ _ rfl enter_awake (by simp only [List.map_toArray, List.map_nil]) (awake32_any W) ?_
          rintro e w' ⟨rfl, hb⟩
          exact ⟨_, rfl, hK _ _ (hI.put trivial 0 rfl rfl (hI.st.to 0 (by decide) (fun ⟨R, h⟩ => ⟨R, h.below hb⟩) (fun _ h => h.below hb)))⟩
        refine JSteps.cons (fun V Ld a W hLi hpre hR hI KK hK => ?_) ?_
        · have p0 : Ld 0 = true := hpre 0 (List.mem_of_elem_eq_true (by kernel_rfl))
          have f0 := (hR.ev 0 rfl rfl p0).trans (hI.val 0 _ rfl p0)
          exact G_move rfl (.tmp 124) rfl f0 (hK _ _ (hI.put0 1 rfl rfl (hI.st.mv _ (by decide))))
        refine JSteps.cons (fun V Ld a W hLi hpre hR hI KK hK => ?_) ?_
        · have pg1 : Ld 1 = true := hpre 1 (List.mem_of_elem_eq_true (by kernel_rfl))
          refine G_g (hR.want' 1 rfl rfl rfl pg1 (hI.val 1 _ rfl pg1)) ?_
          have o6 := (hR.old 6 (by kernel_rfl)).trans (show _ = Value.pointer (some ⟨n4, 0, none⟩) from rfl)
          obtain ⟨R2, hp⟩ := hI.st.q
          exact J_load rfl _ (.tmp 6) rfl (by rw [o6]; exact ld_desk hp.x) (hK _ _ (hI.put0 2 rfl rfl (hI.st.mv _ (by decide))))
        refine JSteps.cons (fun V Ld a W hLi hpre hR hI KK hK => ?_) ?_
        · have pg1 : Ld 1 = true := hpre 1 (List.mem_of_elem_eq_true (by kernel_rfl))
          refine G_g (hR.want' 1 rfl rfl rfl pg1 (hI.val 1 _ rfl pg1)) ?_
          have o9 := (hR.old 9 (by kernel_rfl)).trans (show _ = Value.string ws from rfl)
          exact G_move rfl (.tmp 9) rfl o9 (hK _ _ (hI.put0 3 rfl rfl (hI.st.mv _ (by decide))))
        refine JSteps.cons (fun V Ld a W hLi hpre hR hI KK hK => ?_) ?_
        · have pg1 : Ld 1 = true := hpre 1 (List.mem_of_elem_eq_true (by kernel_rfl))
          refine G_g (hR.want' 1 rfl rfl rfl pg1 (hI.val 1 _ rfl pg1)) ?_
          have o8 := (hR.old 8 (by kernel_rfl)).trans (show _ = Value.string role from rfl)
          exact G_move rfl (.tmp 8) rfl o8 (hK _ _ (hI.put0 4 rfl rfl (hI.st.mv _ (by decide))))
        refine JSteps.cons (fun V Ld a W hLi hpre hR hI KK hK => ?_) ?_
        · have pg1 : Ld 1 = true := hpre 1 (List.mem_of_elem_eq_true (by kernel_rfl))
          refine G_g (hR.want' 1 rfl rfl rfl pg1 (hI.val 1 _ rfl pg1)) ?_
          have o5 := (hR.old 5 (by kernel_rfl)).trans (show _ = Value.pointer (some ⟨Dd, 0, none⟩) from rfl)
          exact G_move rfl (.tmp 5) rfl o5 (hK _ _ (hI.put0 5 rfl rfl (hI.st.mv _ (by decide))))
        refine JSteps.cons (fun V Ld a W hLi hpre hR hI KK hK => ?_) ?_
        · have pg1 : Ld 1 = true := hpre 1 (List.mem_of_elem_eq_true (by kernel_rfl))
          refine G_g (hR.want' 1 rfl rfl rfl pg1 (hI.val 1 _ rfl pg1)) ?_
          have o10 := (hR.old 10 (by kernel_rfl)).trans (show _ = Value.int .i64 tm from rfl)
          exact G_move rfl (.tmp 10) rfl o10 (hK _ _ (hI.put0 6 rfl rfl (hI.st.mv _ (by decide))))
        refine JSteps.cons (fun V Ld a W hLi hpre hR hI KK hK => ?_) ?_
        · have pg1 : Ld 1 = true := hpre 1 (List.mem_of_elem_eq_true (by kernel_rfl))
          refine G_g (hR.want' 1 rfl rfl rfl pg1 (hI.val 1 _ rfl pg1)) ?_
          have p6 : Ld 6 = true := hpre 6 (List.mem_of_elem_eq_true (by kernel_rfl))
          have f6 := (hR.ev 6 rfl rfl p6).trans (hI.val 6 _ rfl p6)
          obtain ⟨R2, hp⟩ := hI.st.q
          have hlt := hp.d.lt
          exact J_buildSlice rfl _ 2 _ rfl (by simp only [List.map_toArray, List.map_cons, List.map_nil, f6]; exact bs_i2 W tm) (hK _ _ (hI.put trivial 7 rfl trivial (hI.st.s7 (fun ⟨R, h⟩ => ⟨R, h.below (below_alloc _ _)⟩) (fun _ => intL.new W [tm, 60] 2 hlt))))
        refine JSteps.cons (fun V Ld a W hLi hpre hR hI KK hK => ?_) ?_
        · have pg1 : Ld 1 = true := hpre 1 (List.mem_of_elem_eq_true (by kernel_rfl))
          refine G_g (hR.want' 1 rfl rfl rfl pg1 (hI.val 1 _ rfl pg1)) ?_
          have p5 : Ld 5 = true := hpre 5 (List.mem_of_elem_eq_true (by kernel_rfl))
          have f5 := (hR.ev 5 rfl rfl p5).trans (hI.val 5 _ rfl p5)
          have p7 : Ld 7 = true := hpre 7 (List.mem_of_elem_eq_true (by kernel_rfl))
          obtain ⟨R2, hp⟩ := hI.st.q
          obtain ⟨A7, c7, e7, h7, g7⟩ := hI.st.l p7
          refine J_call rfl _ _ _ rfl enter_of (by simp only [List.map_toArray, List.map_cons, List.map_nil, f5, hR.ev 7 rfl rfl p7, e7]; rfl) (pickQ_any Dd R2 A7 [tm, 60] c7 W hp.d h7 g7 (by simp) (by simp)) ?_
          rintro e w' ⟨rfl, hd, hg⟩
          exact ⟨_, rfl, hK _ _ (hI.put trivial 8 rfl ⟨_, rfl⟩ (hI.st.to 8 (by decide) (fun ⟨R, h⟩ => ⟨_, h.dice hd hg⟩) (fun _ h => h.dice hg)))⟩
        refine JSteps.cons (fun V Ld a W hLi hpre hR hI KK hK => ?_) ?_
        · have pg1 : Ld 1 = true := hpre 1 (List.mem_of_elem_eq_true (by kernel_rfl))
          refine G_g (hR.want' 1 rfl rfl rfl pg1 (hI.val 1 _ rfl pg1)) ?_
          have o7 := (hR.old 7 (by kernel_rfl)).trans (show _ = Value.int .i64 id from rfl)
          exact G_move rfl (.tmp 7) rfl o7 (hK _ _ (hI.put0 9 rfl rfl (hI.st.mv _ (by decide))))
        refine JSteps.cons (fun V Ld a W hLi hpre hR hI KK hK => ?_) ?_
        · have pg1 : Ld 1 = true := hpre 1 (List.mem_of_elem_eq_true (by kernel_rfl))
          refine G_g (hR.want' 1 rfl rfl rfl pg1 (hI.val 1 _ rfl pg1)) ?_
          have p2 : Ld 2 = true := hpre 2 (List.mem_of_elem_eq_true (by kernel_rfl))
          have f2 := (hR.ev 2 rfl rfl p2).trans (hI.val 2 _ rfl p2)
          have p3 : Ld 3 = true := hpre 3 (List.mem_of_elem_eq_true (by kernel_rfl))
          have f3 := (hR.ev 3 rfl rfl p3).trans (hI.val 3 _ rfl p3)
          have p4 : Ld 4 = true := hpre 4 (List.mem_of_elem_eq_true (by kernel_rfl))
          have f4 := (hR.ev 4 rfl rfl p4).trans (hI.val 4 _ rfl p4)
          have p8 : Ld 8 = true := hpre 8 (List.mem_of_elem_eq_true (by kernel_rfl))
          obtain ⟨n8, e8⟩ := hI.val 8 _ rfl p8
          have f8 := (hR.ev 8 rfl rfl p8).trans e8
          have p9 : Ld 9 = true := hpre 9 (List.mem_of_elem_eq_true (by kernel_rfl))
          have f9 := (hR.ev 9 rfl rfl p9).trans (hI.val 9 _ rfl p9)
          obtain ⟨R2, hp⟩ := hI.st.q
          refine J_call rfl _ _ _ rfl enter_agree (by simp only [List.map_toArray, List.map_cons, List.map_nil, f2, f3, f4, f8, f9]) (agree_any _ ws role n8 id DD W hp.o.o.read HDS.out HDK.out HWM.out HRM.out) ?_
          rintro e w' ⟨rfl, hb⟩
          exact ⟨_, rfl, hK _ _ (hI.put trivial 10 rfl rfl (hI.st.to 10 (by decide) (fun ⟨R, h⟩ => ⟨R, h.below hb⟩) (fun _ h => h.below hb)))⟩
        refine JSteps.cons (fun V Ld a W hLi hpre hR hI KK hK => ?_) ?_
        · have p1 : Ld 1 = true := hpre 1 (List.mem_of_elem_eq_true (by kernel_rfl))
          have f1 := (hR.ev 1 rfl rfl p1).trans (hI.val 1 _ rfl p1)
          have p10 : Ld 10 = true := hpre 10 (List.mem_of_elem_eq_true (by kernel_rfl))
          have f10 := (hR.ev 10 rfl rfl p10).trans (hI.val 10 _ rfl p10)
          exact G_pick rfl (.tmp 125) (.tmp 134) (.const (.bool false)) rfl f1 (show _ = _ from f10) (hK _ _ (hI.put0 11 rfl rfl (hI.st.mv _ (by decide))))
        refine JSteps.cons (fun V Ld a W hLi hpre hR hI KK hK => ?_) trivial
        · have p11 : Ld 11 = true := hpre 11 (List.mem_of_elem_eq_true (by kernel_rfl))
          have f11 := (hR.ev 11 rfl rfl p11).trans (hI.val 11 _ rfl p11)
          exact G_assign rfl (.tmp 135) rfl f11 (hK _ _ (hI.put0 12 rfl rfl (hI.st.mv _ (by decide))))
      case refine_3 =>
        intro V Ld w9 hLd hI
        have e12 : V 12 = _ := hI.val 12 _ rfl (hLd 12 (by decide))
        obtain ⟨R9, hq⟩ := hI.st.q
        have HBF := Lib.hid hq.b
        clear hq
        clear hI hLd
        simp only [finL, putL, Act.put, Nat.reduceAdd]
        rw [e12]
        clear e12
        generalize V 0 = v0
        generalize V 1 = v1
        generalize V 2 = v2
        generalize V 3 = v3
        generalize V 4 = v4
        generalize V 5 = v5
        generalize V 6 = v6
        generalize V 7 = v7
        generalize V 8 = v8
        generalize V 9 = v9
        generalize V 10 = v10
        generalize V 11 = v11
        clear V
        simp only [List.setIfInBounds_toArray, List.set_cons_succ, List.set_cons_zero]
        go_wp2_with fail
        go_ret
        exact RetB.bool rfl HBF.out
    rcases (show qs = 0 ∨ qs = 1 ∨ qs = 2 ∨ qs = 3 ∨ qs = 4 ∨ qs = 5 by omega) with rfl | rfl | rfl | rfl | rfl | rfl
    · clear m1 m2
      go_upto_region 11 with fail
      refine wp_region_J2 (GI (R := fun _ _ => True) [Pr.eq (.pointer (some ⟨n4, 0, none⟩)), Pr.eq (.slice uA C.length uc), Pr.eq (.pointer (some ⟨Dd, 0, none⟩)), Pr.eq (.int .i64 n0), Pr.any, intPr, Pr.eq (.pointer (some ⟨Dd, 0, none⟩)), Pr.any, strPr, couPr, Pr.any, Pr.any, Pr.eq (.pointer (some ⟨n4, 0, none⟩)), Pr.any] (ApJ [] 4 5 7 8 9 10 11 13 1 (QM w Dd n4 base (.slice uA C.length uc) (.slice vA K.length vc) C K) (intL 6 [1, 2, 0, 1048576, 1048577, n0] Dd) (strL 2 [bHr, bNil] Dd) (CuB w Dd n4 base (.slice uA C.length uc) (.slice vA K.length vc) C K) (CuA w Dd n4 base (.slice uA C.length uc) (.slice vA K.length vc) C K) (CuF w Dd n4 base (.slice vA K.length vc) C K))) (by kernel_rfl) (by kernel_rfl) (by kernel_rfl) ?_ ?_ ?_
      case refine_1 => exact fun V => GI.start (ApJ.start ⟨_, HS.out.below (Below.drew (Below.refl _ _))⟩ _)
      case refine_2 =>
        refine JSteps.cons (fun V Ld a W hLi hpre hR hI KK hK => ?_) ?_
        · have o6 := (hR.old 6 (by kernel_rfl)).trans (show _ = Value.pointer (some ⟨n4, 0, none⟩) from rfl)
          exact J_fieldAddr rfl _ (.tmp 6) 0 rfl (by rw [o6]; go_simp) (hK _ _ (hI.put0 0 rfl rfl (hI.st.mv _ (by decide))))
        refine JSteps.cons (fun V Ld a W hLi hpre hR hI KK hK => ?_) ?_
        · have p0 : Ld 0 = true := hpre 0 (List.mem_of_elem_eq_true (by kernel_rfl))
          have f0 := (hR.ev 0 rfl rfl p0).trans (hI.val 0 _ rfl p0)
          have na := hI.st.na (.inr hLi)
          obtain ⟨R2, hp⟩ := hI.st.p na
          have c0 := hp.x.c0
          exact J_load rfl _ (.tmp 43) rfl (by rw [f0]; go_simp) (hK _ _ (hI.put0 1 rfl rfl (hI.st.mv _ (by decide))))
        refine JSteps.cons (fun V Ld a W hLi hpre hR hI KK hK => ?_) ?_
        · have o5 := (hR.old 5 (by kernel_rfl)).trans (show _ = Value.pointer (some ⟨Dd, 0, none⟩) from rfl)
          exact G_move rfl (.tmp 5) rfl o5 (hK _ _ (hI.put0 2 rfl rfl (hI.st.mv _ (by decide))))
        refine JSteps.cons (fun V Ld a W hLi hpre hR hI KK hK => ?_) ?_
        · have o1 := (hR.old 1 (by kernel_rfl)).trans (show _ = Value.int .i64 n0 from rfl)
          exact G_move rfl (.tmp 1) rfl o1 (hK _ _ (hI.put0 3 rfl rfl (hI.st.mv _ (by decide))))
        refine JSteps.cons (fun V Ld a W hLi hpre hR hI KK hK => ?_) ?_
        · have p3 : Ld 3 = true := hpre 3 (List.mem_of_elem_eq_true (by kernel_rfl))
          have f3 := (hR.ev 3 rfl rfl p3).trans (hI.val 3 _ rfl p3)
          have nd := hI.st.nb (i := 4) (by simp) hLi
          have na := hI.st.na (.inl (hI.st.nl nd))
          obtain ⟨R2, hp⟩ := hI.st.p na
          have hlt := hp.d.lt
          exact J_buildSlice rfl _ 6 _ rfl (by simp only [List.map_toArray, List.map_cons, List.map_nil, f3]; exact bs_i6 W n0) (hK _ _ (hI.put trivial 4 rfl trivial (hI.st.tn 4 (.inl rfl) (by decide) (fun e => absurd e (by decide)) (fun e => absurd e (by decide)) (by decide) (by decide) hLi (fun ⟨R, h⟩ => ⟨R, h.below (below_alloc _ _)⟩) (fun _ h => h.below (below_alloc _ _)) (fun _ h => h.below (below_alloc _ _)) (fun _ => intL.new W [1, 2, 0, 1048576, 1048577, n0] 6 hlt) (fun e => absurd e (by decide)))))
        refine JSteps.cons (fun V Ld a W hLi hpre hR hI KK hK => ?_) ?_
        · have p2 : Ld 2 = true := hpre 2 (List.mem_of_elem_eq_true (by kernel_rfl))
          have f2 := (hR.ev 2 rfl rfl p2).trans (hI.val 2 _ rfl p2)
          have p4 : Ld 4 = true := hpre 4 (List.mem_of_elem_eq_true (by kernel_rfl))
          have nd := hI.st.nb (i := 5) (by simp) hLi
          have nb := hI.st.nl nd
          have na := hI.st.na (.inl nb)
          obtain ⟨R2, hp⟩ := hI.st.p na
          obtain ⟨A4, c4, e4, h4, g4⟩ := hI.st.p1 p4 nb
          refine J_call rfl _ _ _ rfl enter_of (by simp only [List.map_toArray, List.map_cons, List.map_nil, f2, hR.ev 4 rfl rfl p4, e4]; rfl) (pickQ_any Dd R2 A4 [1, 2, 0, 1048576, 1048577, n0] c4 W hp.d h4 g4 (by simp) (by simp)) ?_
          rintro e w' ⟨rfl, hd, hg⟩
          exact ⟨_, rfl, hK _ _ (hI.put trivial 5 rfl ⟨_, rfl⟩ (hI.st.tn 5 (.inr (.inl rfl)) (by decide) (fun _ => p4) (fun e => absurd e (by decide)) (by decide) (by decide) hLi (fun ⟨R, h⟩ => ⟨_, h.dice hd hg⟩) (fun _ h => h.dice hg) (fun _ h => h.dice hg) (fun e => absurd e (by decide)) (fun e => absurd e (by decide))))⟩
        refine JSteps.cons (fun V Ld a W hLi hpre hR hI KK hK => ?_) ?_
        · have o5 := (hR.old 5 (by kernel_rfl)).trans (show _ = Value.pointer (some ⟨Dd, 0, none⟩) from rfl)
          exact G_move rfl (.tmp 5) rfl o5 (hK _ _ (hI.put0 6 rfl rfl (hI.st.mv _ (by decide))))
        refine JSteps.cons (fun V Ld a W hLi hpre hR hI KK hK => ?_) ?_
        · have nd := hI.st.nb (i := 7) (by simp) hLi
          have na := hI.st.na (.inl (hI.st.nl nd))
          obtain ⟨R2, hp⟩ := hI.st.p na
          have hlt := hp.d.lt
          exact J_buildSlice rfl _ 2 _ rfl (by simp only [List.map_toArray, List.map_cons, List.map_nil]; exact bs_hn W) (hK _ _ (hI.put trivial 7 rfl trivial (hI.st.tn 7 (.inr (.inr (.inl rfl))) (by decide) (fun e => absurd e (by decide)) (fun e => absurd e (by decide)) (by decide) (by decide) hLi (fun ⟨R, h⟩ => ⟨R, h.below (below_alloc _ _)⟩) (fun _ h => h.below (below_alloc _ _)) (fun _ h => h.below (below_alloc _ _)) (fun e => absurd e (by decide)) (fun _ => strL.new W [bHr, bNil] 2 rfl (by simp) hlt))))
        refine JSteps.cons (fun V Ld a W hLi hpre hR hI KK hK => ?_) ?_
        · have p6 : Ld 6 = true := hpre 6 (List.mem_of_elem_eq_true (by kernel_rfl))
          have f6 := (hR.ev 6 rfl rfl p6).trans (hI.val 6 _ rfl p6)
          have p7 : Ld 7 = true := hpre 7 (List.mem_of_elem_eq_true (by kernel_rfl))
          have nd := hI.st.nb (i := 8) (by simp) hLi
          have nb := hI.st.nl nd
          have na := hI.st.na (.inl nb)
          obtain ⟨R2, hp⟩ := hI.st.p na
          obtain ⟨A4, c4, e4, h4⟩ := hI.st.p2 p7 nb
          refine J_call rfl _ _ _ rfl enter_word (by simp only [List.map_toArray, List.map_cons, List.map_nil, f6, hR.ev 7 rfl rfl p7, e4]; rfl) (word_any Dd R2 A4 [bHr, bNil] c4 W hp.d h4 (by simp) (by simp)) ?_
          rintro e w' ⟨rfl, hd, hg⟩
          exact ⟨_, rfl, hK _ _ (hI.put trivial 8 rfl ⟨_, rfl, word_small sm_hn (by simp) _⟩ (hI.st.tn 8 (.inr (.inr (.inr rfl))) (by decide) (fun e => absurd e (by decide)) (fun _ => p7) (by decide) (by decide) hLi (fun ⟨R, h⟩ => ⟨_, h.dice hd hg⟩) (fun _ h => h.dice hg) (fun _ h => h.dice hg) (fun e => absurd e (by decide)) (fun e => absurd e (by decide))))⟩
        refine JSteps.cons (fun V Ld a W hLi hpre hR hI KK hK => ?_) ?_
        · have p5 : Ld 5 = true := hpre 5 (List.mem_of_elem_eq_true (by kernel_rfl))
          obtain ⟨n5, e5⟩ := hI.val 5 _ rfl p5
          have f5 := (hR.ev 5 rfl rfl p5).trans e5
          have p8 : Ld 8 = true := hpre 8 (List.mem_of_elem_eq_true (by kernel_rfl))
          obtain ⟨s8, e8, h8⟩ := hI.val 8 _ rfl p8
          have f8 := (hR.ev 8 rfl rfl p8).trans e8
          exact J_build rfl _ _ rfl (by simp only [List.map_toArray, List.map_cons, List.map_nil, f5, f8]; exact bd_cou W n5 s8) (hK _ _ (hI.put trivial 9 rfl ⟨⟨n5, s8, []⟩, rfl, rfl, h8⟩ (hI.st.sd (by decide) ⟨⟨p5, p8⟩, fun j hj => (by cases hj)⟩ hLi)))
        refine JSteps.cons (fun V Ld a W hLi hpre hR hI KK hK => ?_) ?_
        · have p9 : Ld 9 = true := hpre 9 (List.mem_of_elem_eq_true (by kernel_rfl))
          obtain ⟨d9, e9, h9⟩ := hI.val 9 _ rfl p9
          have f9 := (hR.ev 9 rfl rfl p9).trans e9
          exact J_buildSlice rfl _ 1 _ rfl (by simp only [List.map_toArray, List.map_cons, List.map_nil, f9]; exact bs_cou W d9.id d9.o) (hK _ _ (hI.put trivial 10 rfl trivial (hI.st.sb (by decide) p9 hLi (fun ⟨R, h⟩ => ⟨R, h.below (below_alloc _ _)⟩) (fun ⟨R, h⟩ => ⟨W, d9, R, rfl, rfl, h9, h⟩))))
        refine JSteps.cons (fun V Ld a W hLi hpre hR hI KK hK => ?_) ?_
        · have p1 : Ld 1 = true := hpre 1 (List.mem_of_elem_eq_true (by kernel_rfl))
          have f1 := (hR.ev 1 rfl rfl p1).trans (hI.val 1 _ rfl p1)
          have p10 : Ld 10 = true := hpre 10 (List.mem_of_elem_eq_true (by kernel_rfl))
          have hb := hI.st.pb p10 hLi
          obtain ⟨v', W', r1, r2⟩ := CuB.go hb HCL.out
          exact G_bapp rfl (.tmp 44) (.tmp 53) _ rfl (by rw [f1, hR.ev 10 rfl rfl p10]; exact r1) (hK _ _ (hI.put trivial 11 rfl trivial (hI.st.sa (by decide) p10 p1 hLi r2)))
        refine JSteps.cons (fun V Ld a W hLi hpre hR hI KK hK => ?_) ?_
        · have o6 := (hR.old 6 (by kernel_rfl)).trans (show _ = Value.pointer (some ⟨n4, 0, none⟩) from rfl)
          exact J_fieldAddr rfl _ (.tmp 6) 0 rfl (by rw [o6]; go_simp) (hK _ _ (hI.put0 12 rfl rfl (hI.st.mv _ (by decide))))
        refine JSteps.cons (fun V Ld a W hLi hpre hR hI KK hK => ?_) trivial
        · have p12 : Ld 12 = true := hpre 12 (List.mem_of_elem_eq_true (by kernel_rfl))
          have f12 := (hR.ev 12 rfl rfl p12).trans (hI.val 12 _ rfl p12)
          have p11 : Ld 11 = true := hpre 11 (List.mem_of_elem_eq_true (by kernel_rfl))
          obtain ⟨r1, r2⟩ := CuA.go (hI.st.pa p11 hLi)
          exact J_store rfl _ (.tmp 55) (.tmp 54) rfl (by rw [f12, hR.ev 11 rfl rfl p11]; exact r1) (hK _ _ (hI.put trivial 13 rfl trivial (hI.st.ss (by decide) p11 r2)))
      case refine_3 =>
        intro V Ld w16 hLd hI
        obtain ⟨R9, d9, hd9, hm9⟩ := hI.st.ps (hLd 13 (by decide))
        clear hI hLd
        simp only [finL, putL, Act.put, Nat.reduceAdd]
        generalize V 0 = v0
        generalize V 1 = v1
        generalize V 2 = v2
        generalize V 3 = v3
        generalize V 4 = v4
        generalize V 5 = v5
        generalize V 6 = v6
        generalize V 7 = v7
        generalize V 8 = v8
        generalize V 9 = v9
        generalize V 10 = v10
        generalize V 11 = v11 at hm9 ⊢
        generalize V 12 = v12
        clear V
        simp only [List.setIfInBounds_toArray, List.set_cons_succ, List.set_cons_zero]
        have HS2 := Lib.hid hm9
        have HD9 := Lib.hid hd9
        clear hm9 hd9
        go_wp2_with fail
        go_meet
        case rel => exact ⟨_, _, _, _, who, rfl, HWM.out, HS2.out, small_c HSM.out HD9.out HCL.out, (show K.length ≤ 800 by omega)⟩
    · clear m1 m2
      go_upto_region 13 with fail
      refine wp_region_J2 (GI (R := fun _ _ => True) [Pr.eq (.pointer (some ⟨n4, 1, none⟩)), Pr.eq (.slice vA K.length vc), Pr.eq (.pointer (some ⟨Dd, 0, none⟩)), Pr.eq (.int .i64 n0), Pr.any, intPr, Pr.eq (.string who), Pr.eq (.pointer (some ⟨Dd, 0, none⟩)), Pr.any, strPr, Pr.eq (.int .i64 tm), casPr, Pr.any, Pr.any, Pr.eq (.pointer (some ⟨n4, 1, none⟩)), Pr.any] (ApJ [] 4 5 8 9 11 12 13 15 1 (QM w Dd n4 base (.slice uA C.length uc) (.slice vA K.length vc) C K) (intL 3 [2, 3, n0] Dd) (strL 2 [bHr, bLegal] Dd) (KaB w Dd n4 base (.slice uA C.length uc) (.slice vA K.length vc) C K) (KaA w Dd n4 base (.slice uA C.length uc) (.slice vA K.length vc) C K) (KaF w Dd n4 base (.slice uA C.length uc) C K))) (by kernel_rfl) (by kernel_rfl) (by kernel_rfl) ?_ ?_ ?_
      case refine_1 => exact fun V => GI.start (ApJ.start ⟨_, HS.out.below (Below.drew (Below.refl _ _))⟩ _)
      case refine_2 =>
        refine JSteps.cons (fun V Ld a W hLi hpre hR hI KK hK => ?_) ?_
        · have o6 := (hR.old 6 (by kernel_rfl)).trans (show _ = Value.pointer (some ⟨n4, 0, none⟩) from rfl)
          exact J_fieldAddr rfl _ (.tmp 6) 1 rfl (by rw [o6]; go_simp) (hK _ _ (hI.put0 0 rfl rfl (hI.st.mv _ (by decide))))
        refine JSteps.cons (fun V Ld a W hLi hpre hR hI KK hK => ?_) ?_
        · have p0 : Ld 0 = true := hpre 0 (List.mem_of_elem_eq_true (by kernel_rfl))
          have f0 := (hR.ev 0 rfl rfl p0).trans (hI.val 0 _ rfl p0)
          have na := hI.st.na (.inr hLi)
          obtain ⟨R2, hp⟩ := hI.st.p na
          have c0 := hp.x.c1
          exact J_load rfl _ (.tmp 58) rfl (by rw [f0]; go_simp) (hK _ _ (hI.put0 1 rfl rfl (hI.st.mv _ (by decide))))
        refine JSteps.cons (fun V Ld a W hLi hpre hR hI KK hK => ?_) ?_
        · have o5 := (hR.old 5 (by kernel_rfl)).trans (show _ = Value.pointer (some ⟨Dd, 0, none⟩) from rfl)
          exact G_move rfl (.tmp 5) rfl o5 (hK _ _ (hI.put0 2 rfl rfl (hI.st.mv _ (by decide))))
        refine JSteps.cons (fun V Ld a W hLi hpre hR hI KK hK => ?_) ?_
        · have o1 := (hR.old 1 (by kernel_rfl)).trans (show _ = Value.int .i64 n0 from rfl)
          exact G_move rfl (.tmp 1) rfl o1 (hK _ _ (hI.put0 3 rfl rfl (hI.st.mv _ (by decide))))
        refine JSteps.cons (fun V Ld a W hLi hpre hR hI KK hK => ?_) ?_
        · have p3 : Ld 3 = true := hpre 3 (List.mem_of_elem_eq_true (by kernel_rfl))
          have f3 := (hR.ev 3 rfl rfl p3).trans (hI.val 3 _ rfl p3)
          have nd := hI.st.nb (i := 4) (by simp) hLi
          have na := hI.st.na (.inl (hI.st.nl nd))
          obtain ⟨R2, hp⟩ := hI.st.p na
          have hlt := hp.d.lt
          exact J_buildSlice rfl _ 3 _ rfl (by simp only [List.map_toArray, List.map_cons, List.map_nil, f3]; exact bs_i3 W n0) (hK _ _ (hI.put trivial 4 rfl trivial (hI.st.tn 4 (.inl rfl) (by decide) (fun e => absurd e (by decide)) (fun e => absurd e (by decide)) (by decide) (by decide) hLi (fun ⟨R, h⟩ => ⟨R, h.below (below_alloc _ _)⟩) (fun _ h => h.below (below_alloc _ _)) (fun _ h => h.below (below_alloc _ _)) (fun _ => intL.new W [2, 3, n0] 3 hlt) (fun e => absurd e (by decide)))))
        refine JSteps.cons (fun V Ld a W hLi hpre hR hI KK hK => ?_) ?_
        · have p2 : Ld 2 = true := hpre 2 (List.mem_of_elem_eq_true (by kernel_rfl))
          have f2 := (hR.ev 2 rfl rfl p2).trans (hI.val 2 _ rfl p2)
          have p4 : Ld 4 = true := hpre 4 (List.mem_of_elem_eq_true (by kernel_rfl))
          have nd := hI.st.nb (i := 5) (by simp) hLi
          have nb := hI.st.nl nd
          have na := hI.st.na (.inl nb)
          obtain ⟨R2, hp⟩ := hI.st.p na
          obtain ⟨A4, c4, e4, h4, g4⟩ := hI.st.p1 p4 nb
          refine J_call rfl _ _ _ rfl enter_of (by simp only [List.map_toArray, List.map_cons, List.map_nil, f2, hR.ev 4 rfl rfl p4, e4]; rfl) (pickQ_any Dd R2 A4 [2, 3, n0] c4 W hp.d h4 g4 (by simp) (by simp)) ?_
          rintro e w' ⟨rfl, hd, hg⟩
          exact ⟨_, rfl, hK _ _ (hI.put trivial 5 rfl ⟨_, rfl⟩ (hI.st.tn 5 (.inr (.inl rfl)) (by decide) (fun _ => p4) (fun e => absurd e (by decide)) (by decide) (by decide) hLi (fun ⟨R, h⟩ => ⟨_, h.dice hd hg⟩) (fun _ h => h.dice hg) (fun _ h => h.dice hg) (fun e => absurd e (by decide)) (fun e => absurd e (by decide))))⟩
        refine JSteps.cons (fun V Ld a W hLi hpre hR hI KK hK => ?_) ?_
        · have o9 := (hR.old 9 (by kernel_rfl)).trans (show _ = Value.string who from rfl)
          exact G_move rfl (.tmp 9) rfl o9 (hK _ _ (hI.put0 6 rfl rfl (hI.st.mv _ (by decide))))
        refine JSteps.cons (fun V Ld a W hLi hpre hR hI KK hK => ?_) ?_
        · have o5 := (hR.old 5 (by kernel_rfl)).trans (show _ = Value.pointer (some ⟨Dd, 0, none⟩) from rfl)
          exact G_move rfl (.tmp 5) rfl o5 (hK _ _ (hI.put0 7 rfl rfl (hI.st.mv _ (by decide))))
        refine JSteps.cons (fun V Ld a W hLi hpre hR hI KK hK => ?_) ?_
        · have nd := hI.st.nb (i := 8) (by simp) hLi
          have na := hI.st.na (.inl (hI.st.nl nd))
          obtain ⟨R2, hp⟩ := hI.st.p na
          have hlt := hp.d.lt
          exact J_buildSlice rfl _ 2 _ rfl (by simp only [List.map_toArray, List.map_cons, List.map_nil]; exact bs_hl W) (hK _ _ (hI.put trivial 8 rfl trivial (hI.st.tn 8 (.inr (.inr (.inl rfl))) (by decide) (fun e => absurd e (by decide)) (fun e => absurd e (by decide)) (by decide) (by decide) hLi (fun ⟨R, h⟩ => ⟨R, h.below (below_alloc _ _)⟩) (fun _ h => h.below (below_alloc _ _)) (fun _ h => h.below (below_alloc _ _)) (fun e => absurd e (by decide)) (fun _ => strL.new W [bHr, bLegal] 2 rfl (by simp) hlt))))
        refine JSteps.cons (fun V Ld a W hLi hpre hR hI KK hK => ?_) ?_
        · have p7 : Ld 7 = true := hpre 7 (List.mem_of_elem_eq_true (by kernel_rfl))
          have f7 := (hR.ev 7 rfl rfl p7).trans (hI.val 7 _ rfl p7)
          have p8 : Ld 8 = true := hpre 8 (List.mem_of_elem_eq_true (by kernel_rfl))
          have nd := hI.st.nb (i := 9) (by simp) hLi
          have nb := hI.st.nl nd
          have na := hI.st.na (.inl nb)
          obtain ⟨R2, hp⟩ := hI.st.p na
          obtain ⟨A4, c4, e4, h4⟩ := hI.st.p2 p8 nb
          refine J_call rfl _ _ _ rfl enter_word (by simp only [List.map_toArray, List.map_cons, List.map_nil, f7, hR.ev 8 rfl rfl p8, e4]; rfl) (word_any Dd R2 A4 [bHr, bLegal] c4 W hp.d h4 (by simp) (by simp)) ?_
          rintro e w' ⟨rfl, hd, hg⟩
          exact ⟨_, rfl, hK _ _ (hI.put trivial 9 rfl ⟨_, rfl, word_small sm_hl (by simp) _⟩ (hI.st.tn 9 (.inr (.inr (.inr rfl))) (by decide) (fun e => absurd e (by decide)) (fun _ => p8) (by decide) (by decide) hLi (fun ⟨R, h⟩ => ⟨_, h.dice hd hg⟩) (fun _ h => h.dice hg) (fun _ h => h.dice hg) (fun e => absurd e (by decide)) (fun e => absurd e (by decide))))⟩
        refine JSteps.cons (fun V Ld a W hLi hpre hR hI KK hK => ?_) ?_
        · have o10 := (hR.old 10 (by kernel_rfl)).trans (show _ = Value.int .i64 tm from rfl)
          exact G_move rfl (.tmp 10) rfl o10 (hK _ _ (hI.put0 10 rfl rfl (hI.st.mv _ (by decide))))
        refine JSteps.cons (fun V Ld a W hLi hpre hR hI KK hK => ?_) ?_
        · have p5 : Ld 5 = true := hpre 5 (List.mem_of_elem_eq_true (by kernel_rfl))
          obtain ⟨n5, e5⟩ := hI.val 5 _ rfl p5
          have f5 := (hR.ev 5 rfl rfl p5).trans e5
          have p6 : Ld 6 = true := hpre 6 (List.mem_of_elem_eq_true (by kernel_rfl))
          have f6 := (hR.ev 6 rfl rfl p6).trans (hI.val 6 _ rfl p6)
          have p9 : Ld 9 = true := hpre 9 (List.mem_of_elem_eq_true (by kernel_rfl))
          obtain ⟨s9, e9, h9⟩ := hI.val 9 _ rfl p9
          have f9 := (hR.ev 9 rfl rfl p9).trans e9
          have p10 : Ld 10 = true := hpre 10 (List.mem_of_elem_eq_true (by kernel_rfl))
          have f10 := (hR.ev 10 rfl rfl p10).trans (hI.val 10 _ rfl p10)
          exact J_build rfl _ _ rfl (by simp only [List.map_toArray, List.map_cons, List.map_nil, f5, f6, f9, f10]; exact bd_case4 W n5 who s9 tm) (hK _ _ (hI.put trivial 11 rfl ⟨⟨n5, who, s9, tm, false⟩, rfl, HWS.out, h9⟩ (hI.st.sd (by decide) ⟨⟨p5, p9⟩, fun j hj => (by cases hj)⟩ hLi)))
        refine JSteps.cons (fun V Ld a W hLi hpre hR hI KK hK => ?_) ?_
        · have p11 : Ld 11 = true := hpre 11 (List.mem_of_elem_eq_true (by kernel_rfl))
          obtain ⟨x11, e11, h11⟩ := hI.val 11 _ rfl p11
          have f11 := (hR.ev 11 rfl rfl p11).trans e11
          exact J_buildSlice rfl _ 1 _ rfl (by simp only [List.map_toArray, List.map_cons, List.map_nil, f11]; exact bs_case W x11) (hK _ _ (hI.put trivial 12 rfl trivial (hI.st.sb (by decide) p11 hLi (fun ⟨R, h⟩ => ⟨R, h.below (below_alloc _ _)⟩) (fun ⟨R, h⟩ => ⟨W, x11, R, rfl, rfl, h11, h⟩))))
        refine JSteps.cons (fun V Ld a W hLi hpre hR hI KK hK => ?_) ?_
        · have p1 : Ld 1 = true := hpre 1 (List.mem_of_elem_eq_true (by kernel_rfl))
          have f1 := (hR.ev 1 rfl rfl p1).trans (hI.val 1 _ rfl p1)
          have p12 : Ld 12 = true := hpre 12 (List.mem_of_elem_eq_true (by kernel_rfl))
          have hb := hI.st.pb p12 hLi
          obtain ⟨v', W', r1, r2⟩ := KaB.go hb HKL.out
          exact G_bapp rfl (.tmp 59) (.tmp 70) _ rfl (by rw [f1, hR.ev 12 rfl rfl p12]; exact r1) (hK _ _ (hI.put trivial 13 rfl trivial (hI.st.sa (by decide) p12 p1 hLi r2)))
        refine JSteps.cons (fun V Ld a W hLi hpre hR hI KK hK => ?_) ?_
        · have o6 := (hR.old 6 (by kernel_rfl)).trans (show _ = Value.pointer (some ⟨n4, 0, none⟩) from rfl)
          exact J_fieldAddr rfl _ (.tmp 6) 1 rfl (by rw [o6]; go_simp) (hK _ _ (hI.put0 14 rfl rfl (hI.st.mv _ (by decide))))
        refine JSteps.cons (fun V Ld a W hLi hpre hR hI KK hK => ?_) trivial
        · have p14 : Ld 14 = true := hpre 14 (List.mem_of_elem_eq_true (by kernel_rfl))
          have f14 := (hR.ev 14 rfl rfl p14).trans (hI.val 14 _ rfl p14)
          have p13 : Ld 13 = true := hpre 13 (List.mem_of_elem_eq_true (by kernel_rfl))
          obtain ⟨r1, r2⟩ := KaA.go (hI.st.pa p13 hLi)
          exact J_store rfl _ (.tmp 72) (.tmp 71) rfl (by rw [f14, hR.ev 13 rfl rfl p13]; exact r1) (hK _ _ (hI.put trivial 15 rfl trivial (hI.st.ss (by decide) p13 r2)))
      case refine_3 =>
        intro V Ld w16 hLd hI
        obtain ⟨R9, x9, hx9, hm9⟩ := hI.st.ps (hLd 15 (by decide))
        clear hI hLd
        simp only [finL, putL, Act.put, Nat.reduceAdd]
        generalize V 0 = v0
        generalize V 1 = v1
        generalize V 2 = v2
        generalize V 3 = v3
        generalize V 4 = v4
        generalize V 5 = v5
        generalize V 6 = v6
        generalize V 7 = v7
        generalize V 8 = v8
        generalize V 9 = v9
        generalize V 10 = v10
        generalize V 11 = v11
        generalize V 12 = v12
        generalize V 13 = v13 at hm9 ⊢
        generalize V 14 = v14
        clear V
        simp only [List.setIfInBounds_toArray, List.set_cons_succ, List.set_cons_zero]
        have HS2 := Lib.hid hm9
        have HX9 := Lib.hid hx9
        clear hm9 hx9
        go_wp2_with fail
        go_meet
        case rel => exact ⟨_, _, _, _, who, rfl, HWM.out, HS2.out, small_k HSM.out HX9.out HKL.out, (show (K ++ [x9]).length ≤ 800 by simp; omega)⟩
    · clear m1 m2
      have x0 := HS.out.x.c0
      have x1 := HS.out.x.c1
      have xl := HS.out.x.lt
      by_cases hc0 : 0 < C.length
      · have g2 : (0 : Int) < (C.length : Int) := by omega
        obtain ⟨hcc, -⟩ := (DeskR.cou (C := C) (K := K) HS.out.o.o.read)
        obtain ⟨ub, uo, xx, rfl, -⟩ := hcc.elem hc0
        have HCO := Lib.hid (HSM.out.co 0 hc0).1
        have HC0 := Lib.hid hc0
        have HCOS := Lib.hid (show (cAt C 0).o.size ≤ 1000 from HOS.out hc0)
        generalize hco : (cAt C 0).o = co at *
        have HCQ := Lib.hid hco
        clear hco hcc
        go_wp2_with fail
        have K6' : K.length ≤ 257 := by omega
        have HS' := Lib.hid (show ∃ R v K, K.length ≤ 257 ∧ DeskS ⟨C, K⟩ ∧ MdS w w15 Dd n4 base R (.slice (some ⟨ub, uo, none⟩) C.length uc) v ⟨C, K⟩ from ⟨_, _, K, K6', HSM.out, HS.out⟩)
        clear HS HSM HKL K6 K6' x0 x1 xl
        go_loopw [79] (fun t wr => ∃ R v K, K.length ≤ 257 ∧ DeskS ⟨C, K⟩ ∧ MdS w wr Dd n4 base R (.slice (some ⟨ub, uo, none⟩) C.length uc) v ⟨C, K⟩) (fun _ wr => 300 - ksLen n4 wr)
        case atStart => exact HS'.out
        case round =>
          clear HS'
          obtain ⟨R, v, K, hk7, hsm, hS⟩ := hrel
          obtain ⟨-, -, vA, vc, -, ev⟩ := hS.forms
          have ev : v = .slice vA K.length vc := ev
          subst ev
          have HSM := Lib.hid hsm
          have HS := Lib.hid hS
          have HML := Lib.hid (ksLen_of hS.x.c1)
          have HKL := Lib.hid (show K.length ≤ 900 by omega)
          obtain ⟨m1, m2⟩ := nextV_range R 2 (by omega)
          obtain ⟨q, hq⟩ : ∃ q, nextV R 2 = q := ⟨_, rfl⟩
          rw [hq] at m1 m2
          have HQ := Lib.hid hq
          have HLT := Lib.hid (show n4 < wr.heap.size ∧ n4 ≠ Dd from ⟨hS.x.lt, by have := hS.lt; have := hS.lb; omega⟩)
          have HD1 := Lib.hid hS.x.c1
          clear hsm hS hq
          go_upto_region 16 with fail
          refine wp_region_J2 (GI (R := fun _ _ => True) [Pr.eq (.pointer (some ⟨n4, 1, none⟩)), Pr.eq (.slice vA K.length vc), Pr.eq (.int .i64 (K.length : Int)), Pr.eq (.pointer (some ⟨Dd, 0, none⟩)), Pr.eq (.int .i64 q), Pr.eq (.int .i64 (256 + q)), Pr.eq (.bool (decide ((K.length : Int) < 256 + q)))] (NxS wr Dd R 4)) (by kernel_rfl) (by kernel_rfl) (by kernel_rfl) ?_ ?_ ?_
          case refine_1 => exact fun V => GI.start (NxS.start HS.out.d _)
          case refine_2 =>
            refine JSteps.cons (fun V Ld a W hLi hpre hR hI KK hK => ?_) ?_
            · have o6 := (hR.old 6 (by kernel_rfl)).trans (show _ = Value.pointer (some ⟨n4, 0, none⟩) from rfl)
              exact J_fieldAddr rfl _ (.tmp 6) 1 rfl (by rw [o6]; go_simp) (hK _ _ (hI.put0 0 rfl rfl (hI.st.mv _ (by decide))))
            refine JSteps.cons (fun V Ld a W hLi hpre hR hI KK hK => ?_) ?_
            · have p0 : Ld 0 = true := hpre 0 (List.mem_of_elem_eq_true (by kernel_rfl))
              have f0 := (hR.ev 0 rfl rfl p0).trans (hI.val 0 _ rfl p0)
              have d1 := (hI.st.cell 1 HLT.out.1 HLT.out.2).trans HD1.out
              exact J_load rfl _ (.tmp 79) rfl (by rw [f0]; go_simp) (hK _ _ (hI.put0 1 rfl rfl (hI.st.mv _ (by decide))))
            refine JSteps.cons (fun V Ld a W hLi hpre hR hI KK hK => ?_) ?_
            · have p1 : Ld 1 = true := hpre 1 (List.mem_of_elem_eq_true (by kernel_rfl))
              have f1 := (hR.ev 1 rfl rfl p1).trans (hI.val 1 _ rfl p1)
              exact G_len rfl (.tmp 80) _ rfl (by rw [f1]; go_simp) (hK _ _ (hI.put0 2 rfl rfl (hI.st.mv _ (by decide))))
            refine JSteps.cons (fun V Ld a W hLi hpre hR hI KK hK => ?_) ?_
            · have o5 := (hR.old 5 (by kernel_rfl)).trans (show _ = Value.pointer (some ⟨Dd, 0, none⟩) from rfl)
              exact G_move rfl (.tmp 5) rfl o5 (hK _ _ (hI.put0 3 rfl rfl (hI.st.mv _ (by decide))))
            refine JSteps.cons (fun V Ld a W hLi hpre hR hI KK hK => ?_) ?_
            · have p3 : Ld 3 = true := hpre 3 (List.mem_of_elem_eq_true (by kernel_rfl))
              have f3 := (hR.ev 3 rfl rfl p3).trans (hI.val 3 _ rfl p3)
              refine J_call rfl _ _ _ rfl enter_nxt (by simp only [List.map_toArray, List.map_cons, List.map_nil, f3]; rfl) (next_any Dd R 2 W (hI.st.d0 hLi) (by decide)) ?_
              rintro e w' ⟨rfl, hd, hg⟩
              exact ⟨_, rfl, hK _ _ (hI.put trivial 4 rfl (congrArg (Value.int .i64) HQ.out) (hI.st.nx hd hg))⟩
            refine JSteps.cons (fun V Ld a W hLi hpre hR hI KK hK => ?_) ?_
            · have p4 : Ld 4 = true := hpre 4 (List.mem_of_elem_eq_true (by kernel_rfl))
              have f4 := (hR.ev 4 rfl rfl p4).trans (hI.val 4 _ rfl p4)
              exact J_binOp rfl .add _ (.const (.int .i64 256)) (.tmp 83) _ rfl (by rw [f4]; go_simp; exact IntWalk.i64_in _ (by omega)) (hK _ _ (hI.put0 5 rfl rfl (hI.st.mv _ (by decide))))
            refine JSteps.cons (fun V Ld a W hLi hpre hR hI KK hK => ?_) trivial
            · have p2 : Ld 2 = true := hpre 2 (List.mem_of_elem_eq_true (by kernel_rfl))
              have f2 := (hR.ev 2 rfl rfl p2).trans (hI.val 2 _ rfl p2)
              have p5 : Ld 5 = true := hpre 5 (List.mem_of_elem_eq_true (by kernel_rfl))
              have f5 := (hR.ev 5 rfl rfl p5).trans (hI.val 5 _ rfl p5)
              exact J_binOp rfl .lss _ (.tmp 81) (.tmp 84) _ rfl (by rw [f2, f5]; go_simp) (hK _ _ (hI.put0 6 rfl rfl (hI.st.mv _ (by decide))))
          case refine_3 =>
            intro V Ld w12 hLd hI
            have e6 : V 6 = _ := hI.val 6 _ rfl (hLd 6 (by decide))
            have hg9 := hI.st.g
            have hd9 := hI.st.d1 (hLd 4 (by decide))
            clear hI hLd
            simp only [finL, putL, Act.put, Nat.reduceAdd]
            rw [e6]
            clear e6
            generalize V 0 = v0
            generalize V 1 = v1
            generalize V 2 = v2
            generalize V 3 = v3
            generalize V 4 = v4
            generalize V 5 = v5
            clear V
            simp only [List.setIfInBounds_toArray, List.set_cons_succ, List.set_cons_zero]
            replace HS := Lib.hid (HS.out.dice hd9 hg9)
            have HQL := Lib.hid (show ksLen n4 w12 = K.length from ksLen_of HS.out.x.c1)
            clear hd9 hg9 HD1 HLT
            by_cases hlt : (K.length : Int) < 256 + q
            · have hltd : decide ((K.length : Int) < 256 + q) = true := decide_eq_true hlt
              rw [hltd]
              have hlt' : K.length < 257 := by omega
              obtain ⟨g, cap, W2, r1, r2, r3, r4⟩ := apk_run ⟨2, bOld, co, 60, false⟩ (HS.out.below (Below.drew (Below.refl _ _))).o.ks (by show K.length + 1 ≤ _; omega) (by have := HS.out.x.lt; have := HS.out.lb; exact Nat.le_trans HS.out.lb (Nat.le_of_lt HS.out.x.lt))
              obtain ⟨s1, s2⟩ := (HS.out.below (Below.drew (Below.refl _ _))).pushK r2 r3 r4
              generalize hvz : (Value.slice (some ⟨g, 0, none⟩) (K.length + 1) cap) = vz at *
              have HRUN := Lib.hid r1
              have HST := Lib.hid (show (Instr.storeAt 28 (.pointer (some ⟨n4, 1, none⟩)) vz).run Try.prog W2 = .ok () (W2.setCell ⟨n4, 1, none⟩ vz) from by rw [← hvz]; exact st_ks s1 _ _ _)
              have H17 := Lib.hid (made17 (o := .cells (EK.f (⟨2, bOld, co, 60, false⟩ : CaseD)).toArray 37) HS.out s1 s2 ⟨_, _, _, hvz.symm⟩ HC0.out HCQ.out)
              have HSN := Lib.hid s2
              clear r1 r2 r3 r4 s1 s2
              go_upto_region 17 with fail
              refine wp_region_J2 (GI (R := fun _ _ => True) [Pr.eq (.pointer (some ⟨n4, 1, none⟩)), Pr.eq (.slice vA K.length vc), Pr.eq (.pointer (some ⟨n4, 0, none⟩)), Pr.eq (.slice (some ⟨ub, uo, none⟩) C.length uc), Pr.eq (.pointer (some ⟨ub, uo, none⟩)), Pr.eq (.pointer (some ⟨ub, uo + 1, none⟩)), Pr.eq (.string co), Pr.eq (caseV (⟨2, bOld, co, 60, false⟩ : CaseD)), Pr.eq (.slice (some ⟨w12.heap.size, 0, none⟩) 1 1), Pr.eq (vz), Pr.eq (.pointer (some ⟨n4, 1, none⟩)), Pr.any] (fun V => ChT 1 8 9 11 w12.drew (w12.drew.alloc (.cells (EK.f (⟨2, bOld, co, 60, false⟩ : CaseD)).toArray 37)) W2 (W2.setCell ⟨n4, 1, none⟩ vz))) (by kernel_rfl) (by kernel_rfl) (by kernel_rfl) ?_ ?_ ?_
              case refine_1 => exact fun V => GI.start (ChT.start _ _ _ _ _ _ _ _)
              case refine_2 =>
                refine JSteps.cons (fun V Ld a W hLi hpre hR hI KK hK => ?_) ?_
                · have o6 := (hR.old 6 (by kernel_rfl)).trans (show _ = Value.pointer (some ⟨n4, 0, none⟩) from rfl)
                  exact J_fieldAddr rfl _ (.tmp 6) 1 rfl (by rw [o6]; go_simp) (hK _ _ (hI.put0 0 rfl rfl (hI.st.mv _ (by decide))))
                refine JSteps.cons (fun V Ld a W hLi hpre hR hI KK hK => ?_) ?_
                · have p0 : Ld 0 = true := hpre 0 (List.mem_of_elem_eq_true (by kernel_rfl))
                  have f0 := (hR.ev 0 rfl rfl p0).trans (hI.val 0 _ rfl p0)
                  have c1 := H17.out.1 W (hI.st.early (hI.st.fz hLi))
                  exact J_load rfl _ (.tmp 86) rfl (by rw [f0]; go_simp) (hK _ _ (hI.put0 1 rfl rfl (hI.st.mv _ (by decide))))
                refine JSteps.cons (fun V Ld a W hLi hpre hR hI KK hK => ?_) ?_
                · have o6 := (hR.old 6 (by kernel_rfl)).trans (show _ = Value.pointer (some ⟨n4, 0, none⟩) from rfl)
                  exact J_fieldAddr rfl _ (.tmp 6) 0 rfl (by rw [o6]; go_simp) (hK _ _ (hI.put0 2 rfl rfl (hI.st.mv _ (by decide))))
                refine JSteps.cons (fun V Ld a W hLi hpre hR hI KK hK => ?_) ?_
                · have p2 : Ld 2 = true := hpre 2 (List.mem_of_elem_eq_true (by kernel_rfl))
                  have f2 := (hR.ev 2 rfl rfl p2).trans (hI.val 2 _ rfl p2)
                  have c0 := (H17.out.2 W hI.st.any_).1
                  exact J_load rfl _ (.tmp 88) rfl (by rw [f2]; go_simp) (hK _ _ (hI.put0 3 rfl rfl (hI.st.mv _ (by decide))))
                refine JSteps.cons (fun V Ld a W hLi hpre hR hI KK hK => ?_) ?_
                · have p3 : Ld 3 = true := hpre 3 (List.mem_of_elem_eq_true (by kernel_rfl))
                  have f3 := (hR.ev 3 rfl rfl p3).trans (hI.val 3 _ rfl p3)
                  exact J_indexAddr rfl _ (.tmp 89) (.const (.int .i64 0)) rfl (by rw [f3]; go_simp <;> (intro h; omega)) (hK _ _ (hI.put0 4 rfl rfl (hI.st.mv _ (by decide))))
                refine JSteps.cons (fun V Ld a W hLi hpre hR hI KK hK => ?_) ?_
                · have p4 : Ld 4 = true := hpre 4 (List.mem_of_elem_eq_true (by kernel_rfl))
                  have f4 := (hR.ev 4 rfl rfl p4).trans (hI.val 4 _ rfl p4)
                  exact J_fieldAddr rfl _ (.tmp 90) 1 rfl (by rw [f4]; go_simp) (hK _ _ (hI.put0 5 rfl rfl (hI.st.mv _ (by decide))))
                refine JSteps.cons (fun V Ld a W hLi hpre hR hI KK hK => ?_) ?_
                · have p5 : Ld 5 = true := hpre 5 (List.mem_of_elem_eq_true (by kernel_rfl))
                  have f5 := (hR.ev 5 rfl rfl p5).trans (hI.val 5 _ rfl p5)
                  have hco := (H17.out.2 W hI.st.any_).2
                  exact J_load rfl _ (.tmp 91) rfl (by rw [f5]; go_simp) (hK _ _ (hI.put0 6 rfl rfl (hI.st.mv _ (by decide))))
                refine JSteps.cons (fun V Ld a W hLi hpre hR hI KK hK => ?_) ?_
                · have p6 : Ld 6 = true := hpre 6 (List.mem_of_elem_eq_true (by kernel_rfl))
                  have f6 := (hR.ev 6 rfl rfl p6).trans (hI.val 6 _ rfl p6)
                  exact J_build rfl _ _ rfl (by simp only [List.map_toArray, List.map_cons, List.map_nil, f6]; exact bd_case4 W 2 bOld co 60) (hK _ _ (hI.put0 7 rfl rfl (hI.st.mv _ (by decide))))
                refine JSteps.cons (fun V Ld a W hLi hpre hR hI KK hK => ?_) ?_
                · have p7 : Ld 7 = true := hpre 7 (List.mem_of_elem_eq_true (by kernel_rfl))
                  have f7 := (hR.ev 7 rfl rfl p7).trans (hI.val 7 _ rfl p7)
                  have ew := hI.st.w0 hLi
                  subst ew
                  exact J_buildSlice rfl _ 1 _ rfl (by simp only [List.map_toArray, List.map_cons, List.map_nil, f7]; exact bs_case w12.drew (⟨2, bOld, co, 60, false⟩ : CaseD)) (hK _ _ (hI.put trivial 8 rfl rfl (hI.st.s1 (by decide) hLi)))
                refine JSteps.cons (fun V Ld a W hLi hpre hR hI KK hK => ?_) ?_
                · have p1 : Ld 1 = true := hpre 1 (List.mem_of_elem_eq_true (by kernel_rfl))
                  have f1 := (hR.ev 1 rfl rfl p1).trans (hI.val 1 _ rfl p1)
                  have p8 : Ld 8 = true := hpre 8 (List.mem_of_elem_eq_true (by kernel_rfl))
                  have f8 := (hR.ev 8 rfl rfl p8).trans (hI.val 8 _ rfl p8)
                  have ew := hI.st.w1 p8 hLi
                  subst ew
                  exact G_bapp rfl (.tmp 87) (.tmp 94) _ rfl (by rw [f1, f8]; exact HRUN.out) (hK _ _ (hI.put trivial 9 rfl rfl (hI.st.s2 (by decide) p1 p8 hLi)))
                refine JSteps.cons (fun V Ld a W hLi hpre hR hI KK hK => ?_) ?_
                · have o6 := (hR.old 6 (by kernel_rfl)).trans (show _ = Value.pointer (some ⟨n4, 0, none⟩) from rfl)
                  exact J_fieldAddr rfl _ (.tmp 6) 1 rfl (by rw [o6]; go_simp) (hK _ _ (hI.put0 10 rfl rfl (hI.st.mv _ (by decide))))
                refine JSteps.cons (fun V Ld a W hLi hpre hR hI KK hK => ?_) trivial
                · have p10 : Ld 10 = true := hpre 10 (List.mem_of_elem_eq_true (by kernel_rfl))
                  have f10 := (hR.ev 10 rfl rfl p10).trans (hI.val 10 _ rfl p10)
                  have p9 : Ld 9 = true := hpre 9 (List.mem_of_elem_eq_true (by kernel_rfl))
                  have f9 := (hR.ev 9 rfl rfl p9).trans (hI.val 9 _ rfl p9)
                  have ew := hI.st.w2 p9 hLi
                  subst ew
                  exact J_store rfl _ (.tmp 96) (.tmp 95) rfl (by rw [f10, f9]; exact HST.out) (hK _ _ (hI.put trivial 11 rfl trivial (hI.st.s3 (by decide) p9)))
              case refine_3 =>
                intro V Ld w9 hLd hI
                have ew := hI.st.w3 (hLd 11 (by decide))
                clear hI hLd
                subst ew
                simp only [finL, putL, Act.put, Nat.reduceAdd]
                generalize V 0 = v0
                generalize V 1 = v1
                generalize V 2 = v2
                generalize V 3 = v3
                generalize V 4 = v4
                generalize V 5 = v5
                generalize V 6 = v6
                generalize V 7 = v7
                generalize V 8 = v8
                generalize V 9 = v9
                generalize V 10 = v10
                clear V
                simp only [List.setIfInBounds_toArray, List.set_cons_succ, List.set_cons_zero]
                have HVZ := Lib.hid hvz
                clear hvz
                go_wp2_with fail
                go_roundw
                case rel => exact ⟨_, vz, K ++ [⟨2, bOld, co, 60, false⟩], by simp; omega, small_k HSM.out ⟨by show (3 : Nat) ≤ 1000; decide, HCOS.out⟩ HKL.out, HSN.out⟩
                case measure =>
                  have e1 := HML.out
                  have e2 := ksLen_of (HSN.out.x.c1.trans (congrArg some HVZ.out.symm))
                  rw [e1, e2]; omega
            · have hltd : decide ((K.length : Int) < 256 + q) = false := decide_eq_false hlt
              rw [hltd]
              go_wp2_with fail
              go_meet
              case rel => exact ⟨_, _, _, _, who, rfl, HWM.out, HS.out, HSM.out, (show K.length ≤ 800 by omega)⟩
      · have g2 : ¬ (0 : Int) < (C.length : Int) := by omega
        go_wp2_with fail
        go_meet
        case rel => exact ⟨_, _, _, _, who, rfl, HWM.out, HS.out, HSM.out, (show K.length ≤ 800 by omega)⟩
    · clear m1 m2
      have x0 := HS.out.x.c0
      have xl := HS.out.x.lt
      go_wp2_with fail
      have HS' := Lib.hid (show ∃ R u C', C'.length = C.length ∧ DeskS ⟨C', K⟩ ∧ MdS w w15 Dd n4 base R u (.slice vA K.length vc) ⟨C', K⟩ from ⟨_, _, C, rfl, HSM.out, HS.out⟩)
      clear HS HSM HCL x0 xl
      go_loopw [11] (fun i wr => ∃ (k : Nat) (R : List Int) (u : Value) (C' : List CouD), i = .int .i64 k ∧ k ≤ 33 ∧ C'.length = k ∧ DeskS ⟨C', K⟩ ∧ MdS w wr Dd n4 base R u (.slice vA K.length vc) ⟨C', K⟩) (fun i _ => 40 - (intOf i).toNat)
      case atStart =>
        obtain ⟨R, u, C', e, h1, h2⟩ := HS'.out
        exact ⟨C.length, R, u, C', rfl, by omega, e, h1, h2⟩
      case round =>
        clear HS'
        obtain ⟨k, R, u, C', rfl, hk33, hck, hsm, hS⟩ := hrel
        have HSM := Lib.hid hsm
        have HS := Lib.hid hS
        have HCK := Lib.hid hck
        clear hsm hS hck
        go_wp2_with fail
        refine (next_any Dd R 2 _ HS.out.d (by omega)).mono ?_
        rintro e w16 ⟨rfl, hd, hg⟩
        obtain ⟨m1, m2⟩ := nextV_range R 2 (by omega)
        replace HS := Lib.hid (HS.out.dice hd hg)
        generalize nextV R 2 = q at *
        clear hd hg
        by_cases hlt : (k : Int) < 32 + q
        · obtain ⟨X, q1, q2⟩ := HS.out.o.cs
          have hxl : X.length = C'.length := q2.len
          obtain ⟨Cx, cx, rfl, -⟩ := q1.toP
          have hxl2 : X.length ≤ 1000 := by have := HCK.out; omega
          have HQ1 := Lib.hid q1
          have HQ2 := Lib.hid q2
          have x0 := HS.out.x.c0
          have xl := HS.out.x.lt
          have hle : base ≤ w16.heap.size := by have := HS.out.lb; omega
          clear q1 q2 hxl
          go_wp2_with (first | (at_builtin; refine app_elL EC Try.underlying27 info_cou rfl rfl (.tmp 110) (.tmp 114) rfl (base := base) (w := w16) (v := .slice Cx X.length cx) (S := X) ⟨100 + (k : Int), bHr, none, 0, 0⟩ rfl rfl HQ1.out w16.heap.size rfl rfl (by omega) (by omega) hle ?_; intro g cap w9 hown9 hg9 hor9; obtain ⟨dc9, hm9⟩ := HS.out.pushC (d := ⟨100 + (k : Int), bHr, []⟩) HQ1.out HQ2.out rfl hown9 hg9 (hor9.imp (fun h => h) (by omega)); have d9 := dc9.c0; have f9 := dc9.fz 0; have l9 := dc9.lt; have HM9 := Lib.hid hm9; clear hown9 hg9 hor9 dc9 hm9 x0 xl) | fail)
          go_roundw
          case rel => exact ⟨k + 1, _, _, C' ++ [⟨100 + (k : Int), bHr, []⟩], by go_num, by omega, by simp; exact HCK.out, small_c HSM.out ⟨rfl, by show (2 : Nat) ≤ 1000; decide⟩ (by have := HCK.out; omega), HM9.out⟩
          case measure => simp [intOf]; omega
        · have HS2 := Lib.hid HS.out
          go_wp2_with fail
          go_meet
          case rel => exact ⟨_, _, _, _, who, rfl, HWM.out, HS2.out, HSM.out, (show K.length ≤ 800 by omega)⟩
    · clear m1 m2
      go_wp2_with fail
      refine (next_any Dd R 2 _ HS.out.d (by omega)).mono ?_
      rintro e w16 ⟨rfl, hd, hg⟩
      obtain ⟨m1, m2⟩ := nextV_range R 2 (by omega)
      replace HS := Lib.hid (HS.out.dice hd hg)
      generalize nextV R 2 = q at *
      obtain ⟨qn, rfl⟩ := Int.eq_ofNat_of_zero_le m1
      have qn2 : qn < 2 := by omega
      clear hd hg m1 m2
      have hcv : ∀ W : World, W.heap[w16.heap.size]? = some (.cells (List.replicate (256 + qn) (Value.int .u8 0)).toArray 5 (0, 0)) → (convert 46 9 (.slice (some ⟨w16.heap.size, 0, none⟩) (256 + qn) (256 + qn))).run Try.prog W = .ok (.string ⟨(List.replicate (256 + qn) (0 : UInt8)).toArray⟩) W := by
        intro W h
        have h2 := run_convert_bytes_back (P := Try.prog) W 46 9 5 ⟨w16.heap.size, 0, none⟩ (256 + qn) (List.replicate (256 + qn) 0) Try.underlying46 Try.underlying5 Try.underlying9 (fun j hj => by
          have hj' : j < 256 + qn := by simpa using hj
          rw [Addr.add_lit, cell_of_row _ _ _ _ _ (0, 0) h]
          simp [hj'])
        rw [List.length_replicate] at h2
        exact h2
      have HZS := Lib.hid (show (⟨(List.replicate (256 + qn) (0 : UInt8)).toArray⟩ : ByteArray).size ≤ maxLen from by unfold maxLen; show (List.replicate (256 + qn) (0 : UInt8)).toArray.size ≤ _; simp; omega)
      generalize hzs : (⟨(List.replicate (256 + qn) (0 : UInt8)).toArray⟩ : ByteArray) = zs at *
      have HCV := Lib.hid hcv
      clear hzs hcv
      go_wp2_with (at_make; refine make_u8 rfl _ _ rfl (256 + qn) rfl rfl (by omega) (by omega) ?_; intro w17 hz17 hb17; have hcv17 := HCV.out w17 hz17; have HS17 := Lib.hid (HS.out.below hb17); clear hz17 hb17)
      have HWM := Lib.hid HZS.out
      go_wp2_with fail
      go_meet
      case rel => exact ⟨_, _, _, _, zs, rfl, HWM.out, HS17.out, HSM.out, (show K.length ≤ 800 by omega)⟩
    · clear m1 m2
      go_wp2_with fail
      go_meet
      case rel => exact ⟨_, _, _, _, who, rfl, HWM.out, HS.out, HSM.out, (show K.length ≤ 800 by omega)⟩
  · rw [decide_eq_false hlight] at hL
    have HLt := Lib.hid hL
    clear hL hlight
    go_enter Try.func7, Try.ntmps7
    go_wp2_with fail
    refine ret_pure HLt.out ?_
    clear HLt
    go_wp2_with fail
    refine ret_below (awake32_any _) fun w2 hb => ?_
    have HB2 := Lib.hid hb
    clear hb
    go_wp2_with fail
    go_ret
    exact RetB.bool rfl HB2.out
end Go.Proofs.Ytjckpammcgeloaa
namespace Go.Proofs.Ytjckpammcgeloaa
open Go.RowKit

theorem cell_block_lt {w : World} {a : Addr} {v : Value} (h : w.cell? a = some v) : a.block < w.heap.size := by
  rcases Nat.lt_or_ge a.block w.heap.size with hlt | hge
  · exact hlt
  · unfold World.cell? at h; simp [Array.getElem?_eq_none hge] at h
theorem open_row {W : World} {x : Addr} {len cap : Nat} {zs : List Int} (hl : len ≤ cap) (hm : cap ≤ maxLen) (hz : zs.length = cap) (hcell : ∀ i, i < zs.length → W.cell? (x.add i) = some (.int .i64 (zs.getD i 0)))
    (hb : ∀ n ∈ zs, -9223372036854775808 ≤ n ∧ n ≤ 9223372036854775807) :
    ∃ ys : List Int, ys.length = len ∧ ys.length ≤ maxLen ∧ IntsAt W (some x) ys ∧ ∀ n ∈ ys, -9223372036854775808 ≤ n ∧ n ≤ 9223372036854775807 := by
  refine ⟨zs.take len, by simp; omega, by simp; omega, fun k hk => ?_, fun n hn => hb n (List.mem_of_mem_take hn)⟩
  have hk' : k < len := by simpa using Nat.lt_of_lt_of_le hk (List.length_take_le _ _)
  have h0 := hcell 0 (by omega)
  have hk0 := hcell k (by omega)
  obtain ⟨b, off, spot⟩ := x
  have hs : spot = none := by simpa [Addr.add] using World.cell?_spot h0
  subst hs
  have hlt := cell_block_lt hk0
  refine ⟨b, off, rfl, ?_, ?_⟩
  · unfold Addr.add at hlt; split at hlt <;> exact hlt
  · have e : (⟨b, off, none⟩ : Addr).add k = ⟨b, off + k, none⟩ := by
      unfold Addr.add; split
      · rename_i h; subst h; rfl
      · rfl
    rw [← e, hk0, nth_eq hk]
    simp [List.getD_eq_getElem?_getD, show k < zs.length by omega]
end Go.Proofs.Ytjckpammcgeloaa
