/-
  AttackerMade: the walk.
  A slice of numbers that came in reads as a list.
  An array of two numbers that came in.
  Conditions: those that each theorem names.
-/
import Derived.Test.YtjckpammcgeloaaDoorM14
import Derived.ChangeSame
set_option linter.unusedVariables false
set_option linter.unusedSimpArgs false
namespace Go.Proofs.YtjckpammcgeloaaDoor
open Go.RowKit

theorem enter_of (args : Array Value) (w : World) : (callFunc 14 args).run Tryd.prog w = .ok (.enter 14 args) w :=
  Go.MuLone.run_callFunc_enter Tryd.func14 (by kernel_rfl) rfl args w
theorem enter_agree (args : Array Value) (w : World) : (callFunc 15 args).run Tryd.prog w = .ok (.enter 15 args) w :=
  Go.MuLone.run_callFunc_enter Tryd.func15 (by kernel_rfl) rfl args w
def Pr.int {R : World → World → Prop} : Pr R := ⟨fun u _ => ∃ x : Int, u = .int .i64 x, fun _ _ _ h _ => h⟩
def Pr.lie {R : World → World → Prop} (k : Int) : Pr R := ⟨fun u _ => ∃ x y : Int, u = lieV x k y, fun _ _ _ h _ => h⟩
def Pr.lie2 {R : World → World → Prop} (h : Int) : Pr R := ⟨fun u _ => ∃ x y : Int, u = lieV h x y, fun _ _ _ h _ => h⟩
/-- A literal of two numbers. -/
def Pr.two (B n : Nat) : Pr (KpI B) := ⟨fun u w => ∃ g k : Nat, u = .slice (some ⟨g, 0, none⟩) 2 2 ∧ k < 4 ∧ B ≤ g ∧ w.heap[g]? = some (.cells #[.int .i64 (n : Int), .int .i64 (k : Int)] 3 (0, 0)), fun _ _ _ h hr => by
  obtain ⟨g, k, e1, e2, e3, e4⟩ := h
  exact ⟨g, k, e1, e2, e3, hr g _ e3 e4⟩⟩
/-- A literal that is not the dice. -/
def Pr.litD (D n : Nat) (cs : Array Value) : Pr (fun w w' => Sav (fun b => b = D) w w') := ⟨fun u w => ∃ g : Nat, u = .slice (some ⟨g, 0, none⟩) n n ∧ g ≠ D ∧ w.heap[g]? = some (.cells cs 3 (0, 0)), fun _ _ _ h hr => by
  obtain ⟨g, e1, e2, e3⟩ := h
  exact ⟨g, e1, e2, (hr.block g (blk_lt e3) e2).trans e3⟩⟩
theorem nat_two {n k j : Nat} (hj : j < [(n : Int), (k : Int)].length) (h1 : n < 4) (h2 : k < 4) : ∃ m : Nat, Value.int .i64 (nth [(n : Int), (k : Int)] j) = .int .i64 (m : Int) ∧ m < 4 := by
  have : j = 0 ∨ j = 1 := by simp at hj; omega
  rcases this with rfl | rfl
  · exact ⟨n, rfl, h1⟩
  · exact ⟨k, rfl, h2⟩
theorem bs_two (w : World) (x y : Int) : (Instr.buildSlice 22 2 #[(0, .int .i64 x), (1, .int .i64 y)]).run Tryd.prog w = .ok (.slice (some ⟨w.heap.size, 0, none⟩) 2 2) (w.alloc (.cells #[.int .i64 x, .int .i64 y] 3)) := by go_simp
theorem bs_three (w : World) (x y z : Int) : (Instr.buildSlice 22 3 #[(0, .int .i64 x), (1, .int .i64 y), (2, .int .i64 z)]).run Tryd.prog w = .ok (.slice (some ⟨w.heap.size, 0, none⟩) 3 3) (w.alloc (.cells #[.int .i64 x, .int .i64 y, .int .i64 z] 3)) := by go_simp
theorem bs_five (w : World) (x y z u v : Int) : (Instr.buildSlice 22 5 #[(0, .int .i64 x), (1, .int .i64 y), (2, .int .i64 z), (3, .int .i64 u), (4, .int .i64 v)]).run Tryd.prog w = .ok (.slice (some ⟨w.heap.size, 0, none⟩) 5 5) (w.alloc (.cells #[.int .i64 x, .int .i64 y, .int .i64 z, .int .i64 u, .int .i64 v] 3)) := by go_simp
theorem bd_lie (w : World) (x y z : Int) : (Instr.build 42 #[(0, .int .i64 x), (1, .int .i64 y), (2, .int .i64 z)]).run Tryd.prog w = .ok (lieV x y z) w := by go_simp
theorem ia_arr2 (w : World) (g k : Nat) (hk : k < 2) : (Instr.indexAt 23 (.pointer (some ⟨g, 0, none⟩)) (.int .i64 (k : Int))).run Tryd.prog w = .ok (.pointer (some ⟨g, k, none⟩)) w := by
  have : k = 0 ∨ k = 1 := by omega
  rcases this with rfl | rfl <;> go_simp
theorem add_op1 (x y : Operand) (k : Nat) (hk : k ≤ 1000000) (w : World) : (do Go.eqGuard .add 3 x y (.int .i64 1) (.int .i64 (k : Int)); Go.binOp .add 3 (.int .i64 1) (.int .i64 (k : Int)) : Sem Value).run Tryd.prog w = .ok (.int .i64 ((k + 1 : Nat) : Int)) w := by
  have e : ((k + 1 : Nat) : Int) = 1 + (k : Int) := by omega
  rw [e]
  have h1 : IntKind.wrap .i64 (1 + (k : Int)) = 1 + (k : Int) := by unfold IntKind.wrap; simp [IntKind.bits, IntKind.signed]; omega
  go_simp
def mdG : Nat → Nat | 0 => 4 | 1 => 14 | _ => 23
def mdA : Nat → Nat | 0 => 24 | 1 => 25 | _ => 26
def mdS : Nat → Nat | 0 => 27 | 1 => 28 | _ => 29
theorem mdIx : Ixs 3 mdG mdA mdS := ⟨by decide, by decide, by decide, by decide, by decide, by decide⟩
/-- The dice alone have turned. -/
structure DcS (W0 : World) (D : Nat) (V : Nat → Value) (L : Nat → Bool) (w : World) : Prop where
  sv : Sav (fun b => b = D) W0 w
  dice : ∃ R, DiceAt w D R
section
variable {W0 w w' : World} {D : Nat} {V V' : Nat → Value} {L L' : Nat → Bool}
theorem DcS.start (hd : ∃ R, DiceAt W0 D R) (V : Nat → Value) (L : Nat → Bool) : DcS W0 D V L W0.drew := ⟨Sav.of_below (Below.refl _ _).drew, by obtain ⟨R, h⟩ := hd; exact ⟨R, h.below (Below.refl _ _).drew⟩⟩
theorem DcS.up (h : DcS W0 D V L w) : DcS W0 D V' L' w := ⟨h.sv, h.dice⟩
theorem DcS.go (h : DcS W0 D V L w) (hs : Sav (fun b => b = D) w w') (hd : ∃ R, DiceAt w' D R) : DcS W0 D V' L' w' := ⟨h.sv.trans hs, hd⟩
theorem DcS.bl (h : DcS W0 D V L w) (hb : Below w.heap.size w w') : DcS W0 D V' L' w' := ⟨h.sv.trans (Sav.of_below hb), by obtain ⟨R, h⟩ := h.dice; exact ⟨R, h.below hb⟩⟩
theorem DcS.dlt (h : DcS W0 D V L w) : D < w.heap.size := by obtain ⟨R, h⟩ := h.dice; exact h.lt
end
def mdPL6 (B D px p pn ph n : Nat) (hh : Int) : List (Pr (KpI B)) := [Pr.eq (.pointer (some ⟨D, 0, none⟩)), Pr.eq (planV p pn ph), Pr.eq (.int .i64 hh), Pr.eq (.int .i64 (n : Int)), Pr.any, Pr.eq (.pointer (some ⟨D, 0, none⟩)), Pr.eq (planV p pn ph), Pr.eq (.int .i64 hh), Pr.eq (.pointer (some ⟨D, 0, none⟩)), Pr.eq (.int .i64 (n : Int)), Pr.eq (.pointer (some ⟨D, 0, none⟩)), Pr.nat 4, Pr.two B n, Pr.nat 4, Pr.any, Pr.eq (.pointer (some ⟨D, 0, none⟩)), Pr.eq (planV p pn ph), Pr.eq (.pointer (some ⟨D, 0, none⟩)), Pr.eq (.pointer (some ⟨px, 2, none⟩)), Pr.eq (.int .i64 (ph : Int)), Pr.nat ph, Pr.int, Pr.eq (.int .i64 (n : Int)), Pr.any, Pr.any, Pr.any, Pr.any, Pr.any, Pr.any, Pr.any]
def mdPL10 (p : Nat) (pn ph hh kk n0 : Int) (D nx : Nat) (h1 h2 h3 y1 y2 y3 : Int) (A1 B1 C1 A2 B2 C2 A3 B3 C3 : Option Addr) (l1 m1 t1 a1 b1 c1 l2 m2 t2 a2 b2 c2 l3 m3 t3 a3 b3 c3 : Nat) : List (Pr (fun w w' => Sav (fun b => b = D) w w')) := [Pr.eq (planV p pn ph), Pr.eq (.pointer (some ⟨D, 0, none⟩)), Pr.eq (.int .i64 hh), Pr.eq (.int .i64 hh), Pr.eq (.int .i64 hh), Pr.litD D 5 #[.int .i64 hh, .int .i64 hh, .int .i64 hh, .int .i64 0, .int .i64 9], Pr.int, Pr.eq (.int .i64 kk), Pr.eq (.pointer (some ⟨D, 0, none⟩)), Pr.eq (.pointer (some ⟨nx, 0, none⟩)), Pr.eq (.int .i64 n0), Pr.litD D 3 #[.int .i64 0, .int .i64 1, .int .i64 n0], Pr.int, Pr.lie kk, Pr.eq (giftV h1 (.slice A1 l1 a1) (.slice B1 m1 b1) y1 (.slice C1 t1 c1)), Pr.eq (giftV h2 (.slice A2 l2 a2) (.slice B2 m2 b2) y2 (.slice C2 t2 c2)), Pr.eq (giftV h3 (.slice A3 l3 a3) (.slice B3 m3 b3) y3 (.slice C3 t3 c3)), Pr.eq (.bool true), Pr.eq (.bool false)]
def mdPL13 (p : Nat) (pn ph hh n1 : Int) (D nx : Nat) (h1 h2 h3 y1 y2 y3 : Int) (A1 B1 C1 A2 B2 C2 A3 B3 C3 : Option Addr) (l1 m1 t1 a1 b1 c1 l2 m2 t2 a2 b2 c2 l3 m3 t3 a3 b3 c3 : Nat) : List (Pr (fun w w' => Sav (fun b => b = D) w w')) := [Pr.eq (.bool true), Pr.eq (.bool true), Pr.eq (planV p pn ph), Pr.eq (.int .i64 hh), Pr.eq (.pointer (some ⟨D, 0, none⟩)), Pr.nat 5, Pr.int, Pr.eq (.pointer (some ⟨nx, 1, none⟩)), Pr.eq (.int .i64 n1), Pr.lie2 hh, Pr.eq (giftV h1 (.slice A1 l1 a1) (.slice B1 m1 b1) y1 (.slice C1 t1 c1)), Pr.eq (giftV h2 (.slice A2 l2 a2) (.slice B2 m2 b2) y2 (.slice C2 t2 c2)), Pr.eq (giftV h3 (.slice A3 l3 a3) (.slice B3 m3 b3) y3 (.slice C3 t3 c3)), Pr.eq (.bool true), Pr.eq (.bool true), Pr.eq (.bool true)]
set_option maxRecDepth 100000 in
set_option maxHeartbeats 16000000 in
theorem attackerMade_walk (A0 : Option Addr) (L0 : List Int) (c0 : Nat) (n0 n1 : Int) (w : World) (hB : Bases w) (hl0 : L0.length ≤ maxLen) (hI0 : IntsAt w A0 L0) (_ : ∀ n ∈ L0, -9223372036854775808 ≤ n ∧ n ≤ 9223372036854775807) (_ : -9223372036854775808 ≤ n0 ∧ n0 ≤ 9223372036854775807) (_ : -9223372036854775808 ≤ n1 ∧ n1 ≤ 9223372036854775807) :
    Calls Tryd.prog 3 #[.slice A0 L0.length c0, .agg #[.int .i64 n0, .int .i64 n1]] w (RetB (.bool true) w) := by
  have HB := Lib.hid hB
  clear hB
  by_cases hlight : (L0.length : Int) ≤ 500
  · have hL := fun W => light_any A0 L0.length c0 W
    rw [decide_eq_true hlight] at hL
    have HLt := Lib.hid hL
    clear hL hlight
    go_enter Tryd.func3, Tryd.ntmps3
    go_wp2_with fail
    refine gen_calls fun wa hwa => ?_
    have hba : Below w.heap.size w wa := by rw [hwa]; exact below_alloc _ _
    have hna : wa.heap[w.heap.size]? = some (.cells #[.int .i64 n0, .int .i64 n1] 23 (0, 0)) := by rw [hwa]; exact heap_alloc_new _ _
    replace hI0 := hI0.below hba
    have HBA := Lib.hid hba
    have hsz := hba.size
    generalize hnx : w.heap.size = nx at *
    have HNX := Lib.hid hnx
    clear hwa hba hnx
    refine ret_pure (HLt.out wa) ?_
    clear HLt
    go_wp2_with fail
    refine (roll_any A0 L0 c0 wa hl0 hI0).mono ?_
    rintro e w1 ⟨D, rfl, hDs, hD, hb1⟩
    have hE1 : Env wa w1 D L0 := ⟨hD, hDs, hb1⟩
    clear hI0 hD hb1
    go_wp2_with fail
    refine (safe_any D L0 w1 hE1.dice).mono ?_
    rintro e w2 ⟨p, R1, rfl, hpr, hp1, hp2, hD2, hg2⟩
    have hE2 := hE1.next hD2 hg2
    have HPR := Lib.hid hpr
    clear hD2 hg2 hE1 hpr
    go_wp2_with fail
    refine (pplan_any D p R1 w2 hE2.dice (by omega)).mono ?_
    rintro e w3 ⟨pn, ph, R2, rfl, hn1, hn2, hn3, hD3, hg3⟩
    have hE3 := hE2.next hD3 hg3
    clear hD3 hg3 hE2
    go_wp2_with fail
    refine gen_calls fun w4 hw4 => ?_
    have hpc : PlanCell w4 w3.heap.size p pn ph := by rw [hw4]; exact PlanCell.new _ _ _ rfl
    have hE4 : Env wa w4 D R2 := hE3.mv (by rw [hw4]; exact below_alloc _ _)
    have hxD : ¬ w3.heap.size = D := by have := hE3.lt; omega
    have hDp : D < w3.heap.size := hE3.lt
    have hxn : ¬ w3.heap.size = nx := by have := hE3.below.size; have := blk_lt hna; omega
    generalize w3.heap.size = px at *
    clear hw4 hE3
    refine (next_any D R2 ph w4 hE4.dice (by omega)).mono ?_
    rintro e w4' ⟨rfl, hD5, hg5⟩
    obtain ⟨m1, m2⟩ := nextV_range R2 ph (by omega)
    generalize nextV R2 ph = h0 at *
    have hE5 := hE4.next hD5 hg5
    replace hpc : PlanCell w4' px p pn ph := (hg5.block px (blk_lt hpc) (fun e => by injection e with e; omega)).trans hpc
    clear hE4 hD5 hg5
    go_wp2_with fail
    refine (next_any D R2.tail 4 w4' hE5.dice (by omega)).mono ?_
    rintro e w5 ⟨rfl, hD6, hg6⟩
    obtain ⟨k1, k2⟩ := nextV_range R2.tail 4 (by omega)
    generalize nextV R2.tail 4 = h9 at *
    obtain ⟨n, rfl⟩ := Int.eq_ofNat_of_zero_le k1
    have hE6 := hE5.next hD6 hg6
    have HPL := Lib.hid (show PlanCell w5 px p pn ph from (hg6.block px (blk_lt hpc) (fun e => by injection e with e; omega)).trans hpc)
    have hpD : ¬ (px = D) := hxD
    have hDW : D < w5.heap.size := hE6.lt
    have hn4 : n < 4 := by omega
    have HE6 := Lib.hid hE6
    have HPL5 := Lib.hid (blk_lt HPL.out)
    have hnD : ¬ (nx = D) := by have := blk_lt hna; omega
    have hNA : w5.heap[nx]? = some (.cells #[.int .i64 n0, .int .i64 n1] 23 (0, 0)) := (hE6.below.block nx (blk_lt hna)).trans hna
    have HNA := Lib.hid hNA
    clear hpc hE5 hD6 hg6 hE6 hna hNA k1 k2
    have hh1 : 1 ≤ 1 + h0 := by omega
    have hh2 : 1 + h0 ≤ (ph : Int) := by omega
    go_wp2_with fail
    generalize 1 + h0 = hh at *
    clear m1 m2
    refine wp_region_J2 (GI (mdPL6 w5.heap.size D px p pn ph n hh) (TrG w5 D 3 mdG mdA mdS (fun _ G => ∃ h n, n ≤ 3 ∧ GiftM p h n G))) (by kernel_rfl) (by kernel_rfl) (by kernel_rfl) ?_ ?_ ?_
    case refine_1 => exact fun V => GI.start (TrG.start ⟨_, HE6.out.dice⟩ V)
    case refine_2 =>
      refine JSteps.cons (fun V Ld a W hLi hpre hR hI K hK => ?_) ?_
      · have o5 := (hR.old 5 (by kernel_rfl)).trans (show _ = Value.pointer (some ⟨D, 0, none⟩) from rfl)
        exact G_move rfl (.tmp 5) rfl o5 (hK _ _ (hI.put0 0 rfl rfl (hI.st.set _ (by decide))))
      refine JSteps.cons (fun V Ld a W hLi hpre hR hI K hK => ?_) ?_
      · have o6 := (hR.old 6 (by kernel_rfl)).trans (show _ = Value.pointer (some ⟨px, 0, none⟩) from rfl)
        exact J_load rfl _ (.tmp 6) rfl (by rw [o6]; exact ld_plan ((hI.st.sv.block px (blk_lt HPL.out) hpD).trans HPL.out)) (hK _ _ (hI.put0 1 rfl rfl (hI.st.set _ (by decide))))
      refine JSteps.cons (fun V Ld a W hLi hpre hR hI K hK => ?_) ?_
      · have o7 := (hR.old 7 (by kernel_rfl)).trans (show _ = Value.int .i64 hh from rfl)
        exact G_move rfl (.tmp 7) rfl o7 (hK _ _ (hI.put0 2 rfl rfl (hI.st.set _ (by decide))))
      refine JSteps.cons (fun V Ld a W hLi hpre hR hI K hK => ?_) ?_
      · have o8 := (hR.old 8 (by kernel_rfl)).trans (show _ = Value.int .i64 (n : Int) from rfl)
        exact G_move rfl (.tmp 8) rfl o8 (hK _ _ (hI.put0 3 rfl rfl (hI.st.set _ (by decide))))
      refine JSteps.cons (fun V Ld a W hLi hpre hR hI K hK => ?_) ?_
      · obtain ⟨R, hd⟩ := hI.st.dice
        have p0 : Ld 0 = true := hpre 0 (List.mem_of_elem_eq_true (by kernel_rfl))
        have f0 := (hR.ev 0 rfl rfl p0).trans (hI.val 0 _ rfl p0)
        have p1 : Ld 1 = true := hpre 1 (List.mem_of_elem_eq_true (by kernel_rfl))
        have f1 := (hR.ev 1 rfl rfl p1).trans (hI.val 1 _ rfl p1)
        have p2 : Ld 2 = true := hpre 2 (List.mem_of_elem_eq_true (by kernel_rfl))
        have f2 := (hR.ev 2 rfl rfl p2).trans (hI.val 2 _ rfl p2)
        have p3 : Ld 3 = true := hpre 3 (List.mem_of_elem_eq_true (by kernel_rfl))
        have f3 := (hR.ev 3 rfl rfl p3).trans (hI.val 3 _ rfl p3)
        refine J_call rfl _ _ _ rfl enter_gift (by simp only [List.map_toArray, List.map_cons, List.map_nil, f0, f1, f2, f3]) (gift_any D R p pn ph hh n W hd (by omega) (by omega) (by omega)) ?_
        rintro e w' ⟨v, G, R', rfl, hGR, hM, hd', hg⟩
        exact ⟨_, rfl, hK _ _ (hI.put (R := KpI w5.heap.size) (KpI.sav (grown_save hg (fun x e => by injection e with e; exact e.symm)) hDW) 4 rfl trivial (hI.st.oG mdIx hDW 0 (by decide) hLi hGR ⟨_, n, by omega, hM⟩ hd' hg))⟩
      refine JSteps.cons (fun V Ld a W hLi hpre hR hI K hK => ?_) ?_
      · have o5 := (hR.old 5 (by kernel_rfl)).trans (show _ = Value.pointer (some ⟨D, 0, none⟩) from rfl)
        exact G_move rfl (.tmp 5) rfl o5 (hK _ _ (hI.put0 5 rfl rfl (hI.st.set _ (by decide))))
      refine JSteps.cons (fun V Ld a W hLi hpre hR hI K hK => ?_) ?_
      · have o6 := (hR.old 6 (by kernel_rfl)).trans (show _ = Value.pointer (some ⟨px, 0, none⟩) from rfl)
        exact J_load rfl _ (.tmp 6) rfl (by rw [o6]; exact ld_plan ((hI.st.sv.block px (blk_lt HPL.out) hpD).trans HPL.out)) (hK _ _ (hI.put0 6 rfl rfl (hI.st.set _ (by decide))))
      refine JSteps.cons (fun V Ld a W hLi hpre hR hI K hK => ?_) ?_
      · have o7 := (hR.old 7 (by kernel_rfl)).trans (show _ = Value.int .i64 hh from rfl)
        exact G_move rfl (.tmp 7) rfl o7 (hK _ _ (hI.put0 7 rfl rfl (hI.st.set _ (by decide))))
      refine JSteps.cons (fun V Ld a W hLi hpre hR hI K hK => ?_) ?_
      · have o5 := (hR.old 5 (by kernel_rfl)).trans (show _ = Value.pointer (some ⟨D, 0, none⟩) from rfl)
        exact G_move rfl (.tmp 5) rfl o5 (hK _ _ (hI.put0 8 rfl rfl (hI.st.set _ (by decide))))
      refine JSteps.cons (fun V Ld a W hLi hpre hR hI K hK => ?_) ?_
      · have o8 := (hR.old 8 (by kernel_rfl)).trans (show _ = Value.int .i64 (n : Int) from rfl)
        exact G_move rfl (.tmp 8) rfl o8 (hK _ _ (hI.put0 9 rfl rfl (hI.st.set _ (by decide))))
      refine JSteps.cons (fun V Ld a W hLi hpre hR hI K hK => ?_) ?_
      · have o5 := (hR.old 5 (by kernel_rfl)).trans (show _ = Value.pointer (some ⟨D, 0, none⟩) from rfl)
        exact G_move rfl (.tmp 5) rfl o5 (hK _ _ (hI.put0 10 rfl rfl (hI.st.set _ (by decide))))
      refine JSteps.cons (fun V Ld a W hLi hpre hR hI K hK => ?_) ?_
      · obtain ⟨R, hd⟩ := hI.st.dice
        have p10 : Ld 10 = true := hpre 10 (List.mem_of_elem_eq_true (by kernel_rfl))
        have f10 := (hR.ev 10 rfl rfl p10).trans (hI.val 10 _ rfl p10)
        refine J_call rfl _ _ _ rfl enter_next (by simp only [List.map_toArray, List.map_cons, List.map_nil, f10]; rfl) (next_any D R 4 W hd (by omega)) ?_
        rintro e w' ⟨rfl, hd', hg⟩
        exact ⟨_, rfl, hK _ _ (hI.put (R := KpI w5.heap.size) (KpI.sav (grown_save hg (fun x e => by injection e with e; exact e.symm)) hDW) 11 rfl (nat_next R 4 (by omega)) (hI.st.mv hDW 11 (by decide) (grown_save hg (fun x e => by injection e with e; exact e.symm)) ⟨_, hd'⟩))⟩
      refine JSteps.cons (fun V Ld a W hLi hpre hR hI K hK => ?_) ?_
      · have p9 : Ld 9 = true := hpre 9 (List.mem_of_elem_eq_true (by kernel_rfl))
        have f9 := (hR.ev 9 rfl rfl p9).trans (hI.val 9 _ rfl p9)
        have p11 : Ld 11 = true := hpre 11 (List.mem_of_elem_eq_true (by kernel_rfl))
        obtain ⟨n1, en1, ln1⟩ := hI.val 11 _ rfl p11
        have f11 := (hR.ev 11 rfl rfl p11).trans en1
        exact J_buildSlice rfl _ 2 _ rfl (by simp only [List.map_toArray, List.map_cons, List.map_nil, f9, f11]; exact bs_two W _ _) (hK _ _ (hI.put (R := KpI w5.heap.size) (KpI.below (below_alloc W _)) 12 rfl ⟨_, n1, rfl, ln1, hI.st.sv.size, heap_alloc_new _ _⟩ (hI.st.mv hDW 12 (by decide) (Sav.of_below (below_alloc W _)) (by obtain ⟨R, hd⟩ := hI.st.dice; exact ⟨R, hd.below (below_alloc W _)⟩))))
      refine JSteps.cons (fun V Ld a W hLi hpre hR hI K hK => ?_) ?_
      · obtain ⟨R, hd⟩ := hI.st.dice
        have p8 : Ld 8 = true := hpre 8 (List.mem_of_elem_eq_true (by kernel_rfl))
        have f8 := (hR.ev 8 rfl rfl p8).trans (hI.val 8 _ rfl p8)
        have p12 : Ld 12 = true := hpre 12 (List.mem_of_elem_eq_true (by kernel_rfl))
        obtain ⟨g2, k2, eg2, lk2, lg2, hg2⟩ := hI.val 12 _ rfl p12
        have f12 := (hR.ev 12 rfl rfl p12).trans eg2
        refine J_call rfl _ _ _ rfl enter_of (by simp only [List.map_toArray, List.map_cons, List.map_nil, f8, f12]; rfl) (pick_any D R (some ⟨g2, 0, none⟩) [(n : Int), (k2 : Int)] 2 W hd (IntBlk.ints hg2) (fun b off e => by injection e with e; injection e with e1 e2; omega) (by simp) (by simp)) ?_
        rintro e w' ⟨j, hj, rfl, hd', hg⟩
        exact ⟨_, rfl, hK _ _ (hI.put (R := KpI w5.heap.size) (KpI.sav (grown_save hg (fun x e => by injection e with e; exact e.symm)) hDW) 13 rfl (nat_two hj (by omega) lk2) (hI.st.mv hDW 13 (by decide) (grown_save hg (fun x e => by injection e with e; exact e.symm)) ⟨_, hd'⟩))⟩
      refine JSteps.cons (fun V Ld a W hLi hpre hR hI K hK => ?_) ?_
      · obtain ⟨R, hd⟩ := hI.st.dice
        have p5 : Ld 5 = true := hpre 5 (List.mem_of_elem_eq_true (by kernel_rfl))
        have f5 := (hR.ev 5 rfl rfl p5).trans (hI.val 5 _ rfl p5)
        have p6 : Ld 6 = true := hpre 6 (List.mem_of_elem_eq_true (by kernel_rfl))
        have f6 := (hR.ev 6 rfl rfl p6).trans (hI.val 6 _ rfl p6)
        have p7 : Ld 7 = true := hpre 7 (List.mem_of_elem_eq_true (by kernel_rfl))
        have f7 := (hR.ev 7 rfl rfl p7).trans (hI.val 7 _ rfl p7)
        have p13 : Ld 13 = true := hpre 13 (List.mem_of_elem_eq_true (by kernel_rfl))
        obtain ⟨n3, en3, ln3⟩ := hI.val 13 _ rfl p13
        have f13 := (hR.ev 13 rfl rfl p13).trans en3
        refine J_call rfl _ _ _ rfl enter_gift (by simp only [List.map_toArray, List.map_cons, List.map_nil, f5, f6, f7, f13]) (gift_any D R p pn ph hh n3 W hd (by omega) (by omega) (by omega)) ?_
        rintro e w' ⟨v, G, R', rfl, hGR, hM, hd', hg⟩
        exact ⟨_, rfl, hK _ _ (hI.put (R := KpI w5.heap.size) (KpI.sav (grown_save hg (fun x e => by injection e with e; exact e.symm)) hDW) 14 rfl trivial (hI.st.oG mdIx hDW 1 (by decide) hLi hGR ⟨_, n3, by omega, hM⟩ hd' hg))⟩
      refine JSteps.cons (fun V Ld a W hLi hpre hR hI K hK => ?_) ?_
      · have o5 := (hR.old 5 (by kernel_rfl)).trans (show _ = Value.pointer (some ⟨D, 0, none⟩) from rfl)
        exact G_move rfl (.tmp 5) rfl o5 (hK _ _ (hI.put0 15 rfl rfl (hI.st.set _ (by decide))))
      refine JSteps.cons (fun V Ld a W hLi hpre hR hI K hK => ?_) ?_
      · have o6 := (hR.old 6 (by kernel_rfl)).trans (show _ = Value.pointer (some ⟨px, 0, none⟩) from rfl)
        exact J_load rfl _ (.tmp 6) rfl (by rw [o6]; exact ld_plan ((hI.st.sv.block px (blk_lt HPL.out) hpD).trans HPL.out)) (hK _ _ (hI.put0 16 rfl rfl (hI.st.set _ (by decide))))
      refine JSteps.cons (fun V Ld a W hLi hpre hR hI K hK => ?_) ?_
      · have o5 := (hR.old 5 (by kernel_rfl)).trans (show _ = Value.pointer (some ⟨D, 0, none⟩) from rfl)
        exact G_move rfl (.tmp 5) rfl o5 (hK _ _ (hI.put0 17 rfl rfl (hI.st.set _ (by decide))))
      refine JSteps.cons (fun V Ld a W hLi hpre hR hI K hK => ?_) ?_
      · have o6 := (hR.old 6 (by kernel_rfl)).trans (show _ = Value.pointer (some ⟨px, 0, none⟩) from rfl)
        exact J_fieldAddr rfl _ (.tmp 6) 2 rfl (by rw [o6]; go_simp) (hK _ _ (hI.put0 18 rfl rfl (hI.st.set _ (by decide))))
      refine JSteps.cons (fun V Ld a W hLi hpre hR hI K hK => ?_) ?_
      · have p18 : Ld 18 = true := hpre 18 (List.mem_of_elem_eq_true (by kernel_rfl))
        have f18 := (hR.ev 18 rfl rfl p18).trans (hI.val 18 _ rfl p18)
        have c2 := PlanCell.c2 ((hI.st.sv.block px (blk_lt HPL.out) hpD).trans HPL.out)
        exact J_load rfl _ (.tmp 48) rfl (by rw [f18]; go_simp) (hK _ _ (hI.put0 19 rfl rfl (hI.st.set _ (by decide))))
      refine JSteps.cons (fun V Ld a W hLi hpre hR hI K hK => ?_) ?_
      · obtain ⟨R, hd⟩ := hI.st.dice
        have p17 : Ld 17 = true := hpre 17 (List.mem_of_elem_eq_true (by kernel_rfl))
        have f17 := (hR.ev 17 rfl rfl p17).trans (hI.val 17 _ rfl p17)
        have p19 : Ld 19 = true := hpre 19 (List.mem_of_elem_eq_true (by kernel_rfl))
        have f19 := (hR.ev 19 rfl rfl p19).trans (hI.val 19 _ rfl p19)
        refine J_call rfl _ _ _ rfl enter_next (by simp only [List.map_toArray, List.map_cons, List.map_nil, f17, f19]) (next_any D R ph W hd (by omega)) ?_
        rintro e w' ⟨rfl, hd', hg⟩
        exact ⟨_, rfl, hK _ _ (hI.put (R := KpI w5.heap.size) (KpI.sav (grown_save hg (fun x e => by injection e with e; exact e.symm)) hDW) 20 rfl (nat_next R ph (by omega)) (hI.st.mv hDW 20 (by decide) (grown_save hg (fun x e => by injection e with e; exact e.symm)) ⟨_, hd'⟩))⟩
      refine JSteps.cons (fun V Ld a W hLi hpre hR hI K hK => ?_) ?_
      · have p20 : Ld 20 = true := hpre 20 (List.mem_of_elem_eq_true (by kernel_rfl))
        obtain ⟨m1, em1, lm1⟩ := hI.val 20 _ rfl p20
        have f20 := (hR.ev 20 rfl rfl p20).trans em1
        exact J_binOp rfl .add _ (.const (.int .i64 1)) (.tmp 50) _ rfl (by rw [f20]; exact add_op1 _ _ m1 (by omega) W) (hK _ _ (hI.put0 21 rfl ⟨_, rfl⟩ (hI.st.set _ (by decide))))
      refine JSteps.cons (fun V Ld a W hLi hpre hR hI K hK => ?_) ?_
      · have o8 := (hR.old 8 (by kernel_rfl)).trans (show _ = Value.int .i64 (n : Int) from rfl)
        exact G_move rfl (.tmp 8) rfl o8 (hK _ _ (hI.put0 22 rfl rfl (hI.st.set _ (by decide))))
      refine JSteps.cons (fun V Ld a W hLi hpre hR hI K hK => ?_) ?_
      · obtain ⟨R, hd⟩ := hI.st.dice
        have p15 : Ld 15 = true := hpre 15 (List.mem_of_elem_eq_true (by kernel_rfl))
        have f15 := (hR.ev 15 rfl rfl p15).trans (hI.val 15 _ rfl p15)
        have p16 : Ld 16 = true := hpre 16 (List.mem_of_elem_eq_true (by kernel_rfl))
        have f16 := (hR.ev 16 rfl rfl p16).trans (hI.val 16 _ rfl p16)
        have p21 : Ld 21 = true := hpre 21 (List.mem_of_elem_eq_true (by kernel_rfl))
        obtain ⟨x1, ex1⟩ := hI.val 21 _ rfl p21
        have f21 := (hR.ev 21 rfl rfl p21).trans ex1
        have p22 : Ld 22 = true := hpre 22 (List.mem_of_elem_eq_true (by kernel_rfl))
        have f22 := (hR.ev 22 rfl rfl p22).trans (hI.val 22 _ rfl p22)
        refine J_call rfl _ _ _ rfl enter_gift (by simp only [List.map_toArray, List.map_cons, List.map_nil, f15, f16, f21, f22]) (gift_any D R p pn ph x1 n W hd (by omega) (by omega) (by omega)) ?_
        rintro e w' ⟨v, G, R', rfl, hGR, hM, hd', hg⟩
        exact ⟨_, rfl, hK _ _ (hI.put (R := KpI w5.heap.size) (KpI.sav (grown_save hg (fun x e => by injection e with e; exact e.symm)) hDW) 23 rfl trivial (hI.st.oG mdIx hDW 2 (by decide) hLi hGR ⟨_, n, by omega, hM⟩ hd' hg))⟩
      refine JSteps.cons (fun V Ld a W hLi hpre hR hI K hK => ?_) ?_
      · exact J_alloc rfl _ rfl (al_gift W) (hK _ _ (hI.put (R := KpI w5.heap.size) (KpI.below (below_alloc W _)) 24 rfl trivial (hI.st.oA mdIx 0 (by decide) hLi)))
      refine JSteps.cons (fun V Ld a W hLi hpre hR hI K hK => ?_) ?_
      · exact J_alloc rfl _ rfl (al_gift W) (hK _ _ (hI.put (R := KpI w5.heap.size) (KpI.below (below_alloc W _)) 25 rfl trivial (hI.st.oA mdIx 1 (by decide) hLi)))
      refine JSteps.cons (fun V Ld a W hLi hpre hR hI K hK => ?_) ?_
      · exact J_alloc rfl _ rfl (al_gift W) (hK _ _ (hI.put (R := KpI w5.heap.size) (KpI.below (below_alloc W _)) 26 rfl trivial (hI.st.oA mdIx 2 (by decide) hLi)))
      refine JSteps.cons (fun V Ld a W hLi hpre hR hI K hK => ?_) ?_
      · have p24 : Ld 24 = true := hpre 24 (List.mem_of_elem_eq_true (by kernel_rfl))
        have p4 : Ld 4 = true := hpre 4 (List.mem_of_elem_eq_true (by kernel_rfl))
        obtain ⟨w', hs, hI', hkp⟩ := hI.st.oS mdIx hDW 0 (by decide) p4 p24
        exact J_store rfl _ (.tmp 9) (.tmp 34) rfl (by rw [hR.ev 24 rfl rfl p24, hR.ev 4 rfl rfl p4]; exact hs) (hK _ _ (hI.put (R := KpI w5.heap.size) (hkp _) 27 rfl trivial hI'))
      refine JSteps.cons (fun V Ld a W hLi hpre hR hI K hK => ?_) ?_
      · have p25 : Ld 25 = true := hpre 25 (List.mem_of_elem_eq_true (by kernel_rfl))
        have p14 : Ld 14 = true := hpre 14 (List.mem_of_elem_eq_true (by kernel_rfl))
        obtain ⟨w', hs, hI', hkp⟩ := hI.st.oS mdIx hDW 1 (by decide) p14 p25
        exact J_store rfl _ (.tmp 10) (.tmp 44) rfl (by rw [hR.ev 25 rfl rfl p25, hR.ev 14 rfl rfl p14]; exact hs) (hK _ _ (hI.put (R := KpI w5.heap.size) (hkp _) 28 rfl trivial hI'))
      refine JSteps.cons (fun V Ld a W hLi hpre hR hI K hK => ?_) trivial
      · have p26 : Ld 26 = true := hpre 26 (List.mem_of_elem_eq_true (by kernel_rfl))
        have p23 : Ld 23 = true := hpre 23 (List.mem_of_elem_eq_true (by kernel_rfl))
        obtain ⟨w', hs, hI', hkp⟩ := hI.st.oS mdIx hDW 2 (by decide) p23 p26
        exact J_store rfl _ (.tmp 11) (.tmp 53) rfl (by rw [hR.ev 26 rfl rfl p26, hR.ev 23 rfl rfl p23]; exact hs) (hK _ _ (hI.put (R := KpI w5.heap.size) (hkp _) 29 rfl trivial hI'))
    case refine_3 =>
      intro V Ld w6 hLd hI
      obtain ⟨g1, G1, A1, a1, B1, b1, C1, c1, e1, lg1, ⟨x1, k1, kl1, M1⟩, K1, R1⟩ := hI.st.fin 0 (by decide) (hLd 27 (by decide))
      obtain ⟨g2, G2, A2, a2, B2, b2, C2, c2, e2, lg2, ⟨x2, k2, kl2, M2⟩, K2, R2'⟩ := hI.st.fin 1 (by decide) (hLd 28 (by decide))
      obtain ⟨g3, G3, A3, a3, B3, b3, C3, c3, e3, lg3, ⟨x3, k3, kl3, M3⟩, K3, R3⟩ := hI.st.fin 2 (by decide) (hLd 29 (by decide))
      replace e1 : V 24 = .pointer (some ⟨g1, 0, none⟩) := e1
      replace e2 : V 25 = .pointer (some ⟨g2, 0, none⟩) := e2
      replace e3 : V 26 = .pointer (some ⟨g3, 0, none⟩) := e3
      have hS6 := hI.st.sv
      have hba6 : Below wa.heap.size wa w6 := HE6.out.below.trans (hS6.below wa.heap.size HE6.out.below.size (fun k _ e => by have e' : k = D := e; omega))
      have HW := Lib.hid (show Below w.heap.size w w6 from by rw [HNX.out]; exact HBA.out.trans (hba6.mono (by omega)))
      have hwn : w.heap.size = nx := HNX.out
      have hp5 : px < w5.heap.size := HPL5.out
      have hDw : w.heap.size ≤ D := by omega
      have HDI := Lib.hid hI.st.dice
      replace HPL := Lib.hid (show PlanCell w6 px p pn ph from (hS6.block px (blk_lt HPL.out) hpD).trans HPL.out)
      replace HNA := Lib.hid (show w6.heap[nx]? = some (.cells #[.int .i64 n0, .int .i64 n1] 23 (0, 0)) from (hS6.block nx (blk_lt HNA.out) hnD).trans HNA.out)
      have HK1 := Lib.hid K1
      have HK2 := Lib.hid K2
      have HK3 := Lib.hid K3
      have hN1 : ¬ (g1 = D) := by omega
      have hN2 : ¬ (g2 = D) := by omega
      have hN3 : ¬ (g3 = D) := by omega
      have T1 := gm_tiny M1 (by omega)
      have T2 := gm_tiny M2 (by omega)
      have T3 := gm_tiny M3 (by omega)
      have AWB := Lib.hid (fun (W : World) (hs : Sav (fun b => b = D) w6 W) => (show Bases W from HB.out.below (HW.out.trans (hs.below w.heap.size HW.out.size (fun k _ e => by have e' : k = D := e; omega))) HB.out.1))
      have AGR := Lib.hid (fun (W : World) (pn lh lk lb : Int) (hs : Sav (fun b => b = D) w6 W) => agree_any p pn ph lh lk lb _ _ _ G1 G2 G3 W (HB.out.below (HW.out.trans (hs.below w.heap.size HW.out.size (fun k _ e => by have e' : k = D := e; omega))) HB.out.1) HPR.out (by omega) hp2 (R1.keep (hs.kept (fun b hb e => by have e' : b = D := e; omega))) (R2'.keep (hs.kept (fun b hb e => by have e' : b = D := e; omega))) (R3.keep (hs.kept (fun b hb e => by have e' : b = D := e; omega))) T1 T2 T3)
      have AWB2 := Lib.hid (fun (W : World) (hs : Sav (fun b => b = D ∨ b = px) w6 W) => (show Bases W from HB.out.below (HW.out.trans (hs.below w.heap.size HW.out.size (fun k _ e => by rcases e with e | e <;> omega))) HB.out.1))
      have AGR2 := Lib.hid (fun (W : World) (pn lh lk lb : Int) (hs : Sav (fun b => b = D ∨ b = px) w6 W) => agree_any p pn ph lh lk lb _ _ _ G1 G2 G3 W (HB.out.below (HW.out.trans (hs.below w.heap.size HW.out.size (fun k _ e => by rcases e with e | e <;> omega))) HB.out.1) HPR.out (by omega) hp2 (R1.keep (hs.kept (fun b hb e => by rcases e with e | e <;> omega))) (R2'.keep (hs.kept (fun b hb e => by rcases e with e | e <;> omega))) (R3.keep (hs.kept (fun b hb e => by rcases e with e | e <;> omega))) T1 T2 T3)
      have hM1 : ¬ (g1 = px) := by omega
      have hM2 : ¬ (g2 = px) := by omega
      have hM3 : ¬ (g3 = px) := by omega
      have hpW : px < w6.heap.size := HPL.out.lt
      have hDW6 : D < w6.heap.size := by obtain ⟨R, h⟩ := HDI.out; exact h.lt
      clear hI hLd K1 K2 K3 R1 R2' R3 M1 M2 M3 T1 T2 T3 hS6 hba6 HE6 kl1 kl2 kl3
      simp only [finL, putL, Act.put, Nat.reduceAdd]
      rw [e1, e2, e3]
      clear e1 e2 e3 x1 k1 x2 k2 x3 k3
      generalize V 0 = q0
      generalize V 1 = q1
      generalize V 2 = q2
      generalize V 3 = q3
      generalize V 4 = q4
      generalize V 5 = q5
      generalize V 6 = q6
      generalize V 7 = q7
      generalize V 8 = q8
      generalize V 9 = q9
      generalize V 10 = q10
      generalize V 11 = q11
      generalize V 12 = q12
      generalize V 13 = q13
      generalize V 14 = q14
      generalize V 15 = q15
      generalize V 16 = q16
      generalize V 17 = q17
      generalize V 18 = q18
      generalize V 19 = q19
      generalize V 20 = q20
      generalize V 21 = q21
      generalize V 22 = q22
      generalize V 23 = q23
      clear V
      simp only [List.setIfInBounds_toArray, List.set_cons_succ, List.set_cons_zero]
      obtain ⟨h1, S1, T1, y1, M1⟩ := G1
      obtain ⟨h2, S2, T2, y2, M2⟩ := G2
      obtain ⟨h3, S3, T3, y3, M3⟩ := G3
      simp only at HK1 HK2 HK3 AGR AGR2
      generalize S1.length = l1 at *
      generalize T1.length = m1 at *
      generalize M1.length = t1 at *
      generalize S2.length = l2 at *
      generalize T2.length = m2 at *
      generalize M2.length = t2 at *
      generalize S3.length = l3 at *
      generalize T3.length = m3 at *
      generalize M3.length = t3 at *
      go_wp2_with fail
      go_loopw [12] (fun i wr => ∃ kk : Int, -1 ≤ kk ∧ kk ≤ 7 ∧ i = .int .i64 kk ∧ Sav (fun b => b = D) w6 wr ∧ ∃ R, DiceAt wr D R) (fun i _ => (7 - intOf i).toNat)
      case atStart => exact ⟨-1, by omega, by omega, rfl, Sav.refl _ _, HDI.out⟩
      case round =>
        obtain ⟨kk, kk1, kk2, rfl, hsr, hdr⟩ := hrel
        have HSR := Lib.hid hsr
        have HDR := Lib.hid hdr
        clear hsr hdr
        by_cases hkk : kk ≤ 6
        · go_wp2_with fail
          refine gen_world fun w0 hw0 => ?_
          obtain rfl : wr = w0 := hw0.symm
          clear hw0
          have HSR0 := Lib.hid HSR.out
          have Z1 := HK1
          have Z2 := HK2
          have Z3 := HK3
          have ZP := HPL
          have ZA := AGR
          clear HK1 HK2 HK3 HPL AGR
          have HK1 := Lib.hid (Z1.out.sav HSR.out hN1)
          have HK2 := Lib.hid (Z2.out.sav HSR.out hN2)
          have HK3 := Lib.hid (Z3.out.sav HSR.out hN3)
          have HPL := Lib.hid (ZP.out.keep (HSR.out.block px hpW hpD))
          have AGR := Lib.hid (fun (W : World) (pn lh lk lb : Int) (hs : Sav (fun b => b = D) wr W) => ZA.out W pn lh lk lb (HSR.out.trans hs))
          have HN := Lib.hid ((HSR.out.block nx (blk_lt HNA.out) hnD).trans HNA.out)
          have LN := Lib.hid (blk_lt HN.out)
          have N0 := Lib.hid (show wr.cell? ⟨nx, 0, none⟩ = some (.int .i64 n0) from by rw [cell_of_row wr nx 0 _ _ (0, 0) HN.out]; rfl)
          clear Z1 Z2 Z3 ZP ZA AGR2 AWB2 AWB
          refine wp_region_J2 (GI (mdPL10 p pn ph hh kk n0 D nx h1 h2 h3 y1 y2 y3 A1 B1 C1 A2 B2 C2 A3 B3 C3 l1 m1 t1 a1 b1 c1 l2 m2 t2 a2 b2 c2 l3 m3 t3 a3 b3 c3) (DcS wr D)) (by kernel_rfl) (by kernel_rfl) (by kernel_rfl) ?_ ?_ ?_
          case refine_1 => exact fun V => GI.start (DcS.start HDR.out _ _)
          case refine_2 =>
            refine JSteps.cons (fun V Ld a W hLi hpre hR hI K hK => ?_) ?_
            · have o6 := (hR.old 6 (by kernel_rfl)).trans (show _ = Value.pointer (some ⟨px, 0, none⟩) from rfl)
              exact J_load rfl _ (.tmp 6) rfl (by rw [o6]; exact ld_plan ((hI.st.sv.block px (blk_lt HPL.out) hpD).trans HPL.out)) (hK _ _ (hI.put0 0 rfl rfl hI.st.up))
            refine JSteps.cons (fun V Ld a W hLi hpre hR hI K hK => ?_) ?_
            · have o5 := (hR.old 5 (by kernel_rfl)).trans (show _ = Value.pointer (some ⟨D, 0, none⟩) from rfl)
              exact G_move rfl (.tmp 5) rfl o5 (hK _ _ (hI.put0 1 rfl rfl hI.st.up))
            refine JSteps.cons (fun V Ld a W hLi hpre hR hI K hK => ?_) ?_
            · have o7 := (hR.old 7 (by kernel_rfl)).trans (show _ = Value.int .i64 hh from rfl)
              exact G_move rfl (.tmp 7) rfl o7 (hK _ _ (hI.put0 2 rfl rfl hI.st.up))
            refine JSteps.cons (fun V Ld a W hLi hpre hR hI K hK => ?_) ?_
            · have o7 := (hR.old 7 (by kernel_rfl)).trans (show _ = Value.int .i64 hh from rfl)
              exact G_move rfl (.tmp 7) rfl o7 (hK _ _ (hI.put0 3 rfl rfl hI.st.up))
            refine JSteps.cons (fun V Ld a W hLi hpre hR hI K hK => ?_) ?_
            · have o7 := (hR.old 7 (by kernel_rfl)).trans (show _ = Value.int .i64 hh from rfl)
              exact G_move rfl (.tmp 7) rfl o7 (hK _ _ (hI.put0 4 rfl rfl hI.st.up))
            refine JSteps.cons (fun V Ld a W hLi hpre hR hI K hK => ?_) ?_
            · have p2 : Ld 2 = true := hpre 2 (List.mem_of_elem_eq_true (by kernel_rfl))
              have f2 := (hR.ev 2 rfl rfl p2).trans (hI.val 2 _ rfl p2)
              have p3 : Ld 3 = true := hpre 3 (List.mem_of_elem_eq_true (by kernel_rfl))
              have f3 := (hR.ev 3 rfl rfl p3).trans (hI.val 3 _ rfl p3)
              have p4 : Ld 4 = true := hpre 4 (List.mem_of_elem_eq_true (by kernel_rfl))
              have f4 := (hR.ev 4 rfl rfl p4).trans (hI.val 4 _ rfl p4)
              exact J_buildSlice rfl _ 5 _ rfl (by simp only [List.map_toArray, List.map_cons, List.map_nil, f2, f3, f4]; exact bs_five W hh hh hh 0 9) (hK _ _ (hI.put (R := fun w w' => Sav (fun b => b = D) w w') (Sav.of_below (below_alloc W _)) 5 rfl ⟨_, rfl, by have := hI.st.dlt; omega, heap_alloc_new _ _⟩ (hI.st.bl (below_alloc W _))))
            refine JSteps.cons (fun V Ld a W hLi hpre hR hI K hK => ?_) ?_
            · obtain ⟨R, hd⟩ := hI.st.dice
              have p1 : Ld 1 = true := hpre 1 (List.mem_of_elem_eq_true (by kernel_rfl))
              have f1 := (hR.ev 1 rfl rfl p1).trans (hI.val 1 _ rfl p1)
              have p5 : Ld 5 = true := hpre 5 (List.mem_of_elem_eq_true (by kernel_rfl))
              obtain ⟨ga, ega, lga, hga⟩ := hI.val 5 _ rfl p5
              have f5 := (hR.ev 5 rfl rfl p5).trans ega
              refine J_call rfl _ _ _ rfl enter_of (by simp only [List.map_toArray, List.map_cons, List.map_nil, f1, f5]; rfl) (pick_any D R (some ⟨ga, 0, none⟩) [hh, hh, hh, 0, 9] 5 W hd (IntBlk.ints hga) (fun b off e => by injection e with e; injection e with e1 e2; omega) (by simp) (by simp)) ?_
              rintro e w' ⟨j, hj, rfl, hd', hg⟩
              exact ⟨_, rfl, hK _ _ (hI.put (R := fun w w' => Sav (fun b => b = D) w w') (grown_save hg (fun x e => by injection e with e; exact e.symm)) 6 rfl ⟨_, rfl⟩ (hI.st.go (grown_save hg (fun x e => by injection e with e; exact e.symm)) ⟨_, hd'⟩))⟩
            refine JSteps.cons (fun V Ld a W hLi hpre hR hI K hK => ?_) ?_
            · have o12 := (hR.old 12 (by kernel_rfl)).trans (show _ = Value.int .i64 kk from rfl)
              exact G_move rfl (.tmp 12) rfl o12 (hK _ _ (hI.put0 7 rfl rfl hI.st.up))
            refine JSteps.cons (fun V Ld a W hLi hpre hR hI K hK => ?_) ?_
            · have o5 := (hR.old 5 (by kernel_rfl)).trans (show _ = Value.pointer (some ⟨D, 0, none⟩) from rfl)
              exact G_move rfl (.tmp 5) rfl o5 (hK _ _ (hI.put0 8 rfl rfl hI.st.up))
            refine JSteps.cons (fun V Ld a W hLi hpre hR hI K hK => ?_) ?_
            · have o3 := (hR.old 3 (by kernel_rfl)).trans (show _ = Value.pointer (some ⟨nx, 0, none⟩) from rfl)
              exact J_indexAddr rfl _ (.tmp 3) (.const (.int .i64 0)) rfl (by rw [o3]; exact ia_arr2 W nx 0 (by omega)) (hK _ _ (hI.put0 9 rfl rfl hI.st.up))
            refine JSteps.cons (fun V Ld a W hLi hpre hR hI K hK => ?_) ?_
            · have p9 : Ld 9 = true := hpre 9 (List.mem_of_elem_eq_true (by kernel_rfl))
              have f9 := (hR.ev 9 rfl rfl p9).trans (hI.val 9 _ rfl p9)
              have c0 := (hI.st.sv.cell LN.out hnD).trans N0.out
              exact J_load rfl _ (.tmp 67) rfl (by rw [f9]; go_simp) (hK _ _ (hI.put0 10 rfl rfl hI.st.up))
            refine JSteps.cons (fun V Ld a W hLi hpre hR hI K hK => ?_) ?_
            · have p10 : Ld 10 = true := hpre 10 (List.mem_of_elem_eq_true (by kernel_rfl))
              have f10 := (hR.ev 10 rfl rfl p10).trans (hI.val 10 _ rfl p10)
              exact J_buildSlice rfl _ 3 _ rfl (by simp only [List.map_toArray, List.map_cons, List.map_nil, f10]; exact bs_three W 0 1 n0) (hK _ _ (hI.put (R := fun w w' => Sav (fun b => b = D) w w') (Sav.of_below (below_alloc W _)) 11 rfl ⟨_, rfl, by have := hI.st.dlt; omega, heap_alloc_new _ _⟩ (hI.st.bl (below_alloc W _))))
            refine JSteps.cons (fun V Ld a W hLi hpre hR hI K hK => ?_) ?_
            · obtain ⟨R, hd⟩ := hI.st.dice
              have p8 : Ld 8 = true := hpre 8 (List.mem_of_elem_eq_true (by kernel_rfl))
              have f8 := (hR.ev 8 rfl rfl p8).trans (hI.val 8 _ rfl p8)
              have p11 : Ld 11 = true := hpre 11 (List.mem_of_elem_eq_true (by kernel_rfl))
              obtain ⟨gb, egb, lgb, hgb⟩ := hI.val 11 _ rfl p11
              have f11 := (hR.ev 11 rfl rfl p11).trans egb
              refine J_call rfl _ _ _ rfl enter_of (by simp only [List.map_toArray, List.map_cons, List.map_nil, f8, f11]; rfl) (pick_any D R (some ⟨gb, 0, none⟩) [0, 1, n0] 3 W hd (IntBlk.ints hgb) (fun b off e => by injection e with e; injection e with e1 e2; omega) (by simp) (by simp)) ?_
              rintro e w' ⟨j, hj, rfl, hd', hg⟩
              exact ⟨_, rfl, hK _ _ (hI.put (R := fun w w' => Sav (fun b => b = D) w w') (grown_save hg (fun x e => by injection e with e; exact e.symm)) 12 rfl ⟨_, rfl⟩ (hI.st.go (grown_save hg (fun x e => by injection e with e; exact e.symm)) ⟨_, hd'⟩))⟩
            refine JSteps.cons (fun V Ld a W hLi hpre hR hI K hK => ?_) ?_
            · have p6 : Ld 6 = true := hpre 6 (List.mem_of_elem_eq_true (by kernel_rfl))
              obtain ⟨xa, exa⟩ := hI.val 6 _ rfl p6
              have f6 := (hR.ev 6 rfl rfl p6).trans exa
              have p7 : Ld 7 = true := hpre 7 (List.mem_of_elem_eq_true (by kernel_rfl))
              have f7 := (hR.ev 7 rfl rfl p7).trans (hI.val 7 _ rfl p7)
              have p12 : Ld 12 = true := hpre 12 (List.mem_of_elem_eq_true (by kernel_rfl))
              obtain ⟨xb, exb⟩ := hI.val 12 _ rfl p12
              have f12 := (hR.ev 12 rfl rfl p12).trans exb
              exact J_build rfl _ _ rfl (by simp only [List.map_toArray, List.map_cons, List.map_nil, f6, f7, f12]; exact bd_lie W xa kk xb) (hK _ _ (hI.put0 13 rfl ⟨_, _, rfl⟩ hI.st.up))
            refine JSteps.cons (fun V Ld a W hLi hpre hR hI K hK => ?_) ?_
            · have o9 := (hR.old 9 (by kernel_rfl)).trans (show _ = Value.pointer (some ⟨g1, 0, none⟩) from rfl)
              exact J_load rfl _ (.tmp 9) rfl (by rw [o9]; exact ld_gift (HK1.out.sav hI.st.sv (hN1))) (hK _ _ (hI.put0 14 rfl rfl hI.st.up))
            refine JSteps.cons (fun V Ld a W hLi hpre hR hI K hK => ?_) ?_
            · have o10 := (hR.old 10 (by kernel_rfl)).trans (show _ = Value.pointer (some ⟨g2, 0, none⟩) from rfl)
              exact J_load rfl _ (.tmp 10) rfl (by rw [o10]; exact ld_gift (HK2.out.sav hI.st.sv (hN2))) (hK _ _ (hI.put0 15 rfl rfl hI.st.up))
            refine JSteps.cons (fun V Ld a W hLi hpre hR hI K hK => ?_) ?_
            · have o11 := (hR.old 11 (by kernel_rfl)).trans (show _ = Value.pointer (some ⟨g3, 0, none⟩) from rfl)
              exact J_load rfl _ (.tmp 11) rfl (by rw [o11]; exact ld_gift (HK3.out.sav hI.st.sv (hN3))) (hK _ _ (hI.put0 16 rfl rfl hI.st.up))
            refine JSteps.cons (fun V Ld a W hLi hpre hR hI K hK => ?_) ?_
            · have p0 : Ld 0 = true := hpre 0 (List.mem_of_elem_eq_true (by kernel_rfl))
              have f0 := (hR.ev 0 rfl rfl p0).trans (hI.val 0 _ rfl p0)
              have p13 : Ld 13 = true := hpre 13 (List.mem_of_elem_eq_true (by kernel_rfl))
              obtain ⟨la, lb, el⟩ := hI.val 13 _ rfl p13
              have f13 := (hR.ev 13 rfl rfl p13).trans el
              have p14 : Ld 14 = true := hpre 14 (List.mem_of_elem_eq_true (by kernel_rfl))
              have f14 := (hR.ev 14 rfl rfl p14).trans (hI.val 14 _ rfl p14)
              have p15 : Ld 15 = true := hpre 15 (List.mem_of_elem_eq_true (by kernel_rfl))
              have f15 := (hR.ev 15 rfl rfl p15).trans (hI.val 15 _ rfl p15)
              have p16 : Ld 16 = true := hpre 16 (List.mem_of_elem_eq_true (by kernel_rfl))
              have f16 := (hR.ev 16 rfl rfl p16).trans (hI.val 16 _ rfl p16)
              refine J_call rfl _ _ _ rfl enter_agree (by simp only [List.map_toArray, List.map_cons, List.map_nil, f0, f13, f14, f15, f16]) (AGR.out W pn la kk lb hI.st.sv) ?_
              rintro e w' ⟨rfl, hb⟩
              exact ⟨_, rfl, hK _ _ (hI.put (R := fun w w' => Sav (fun b => b = D) w w') (Sav.of_below hb) 17 rfl rfl (hI.st.bl hb))⟩
            refine JSteps.cons (fun V Ld a W hLi hpre hR hI K hK => ?_) trivial
            · have p17 : Ld 17 = true := hpre 17 (List.mem_of_elem_eq_true (by kernel_rfl))
              have f17 := (hR.ev 17 rfl rfl p17).trans (hI.val 17 _ rfl p17)
              exact G_unOp rfl .not _ (.tmp 75) rfl (by rw [f17]; go_simp) (hK _ _ (hI.put0 18 rfl rfl hI.st.up))
          case refine_3 =>
            intro V Ld w7 hLd hI
            have e18 : V 18 = .bool false := hI.val 18 _ rfl (hLd 18 (by decide))
            have HS7 := Lib.hid (HSR0.out.trans hI.st.sv)
            have HD7 := Lib.hid hI.st.dice
            clear hI hLd
            simp only [finL, putL, Act.put, Nat.reduceAdd]
            rw [e18]
            clear e18
            generalize V 0 = q0
            generalize V 1 = q1
            generalize V 2 = q2
            generalize V 3 = q3
            generalize V 4 = q4
            generalize V 5 = q5
            generalize V 6 = q6
            generalize V 7 = q7
            generalize V 8 = q8
            generalize V 9 = q9
            generalize V 10 = q10
            generalize V 11 = q11
            generalize V 12 = q12
            generalize V 13 = q13
            generalize V 14 = q14
            generalize V 15 = q15
            generalize V 16 = q16
            generalize V 17 = q17
            clear V
            simp only [List.setIfInBounds_toArray, List.set_cons_succ, List.set_cons_zero]
            go_wp2_with fail
            go_roundw
            case rel => exact ⟨kk + 1, by omega, by omega, rfl, HS7.out, HD7.out⟩
            case measure => simp [intOf]; omega
        · go_wp2_with fail
          refine gen_calls fun w0 hw0 => ?_
          have hb0 : Below wr.heap.size wr w0 := by rw [hw0]; exact below_alloc _ _
          have hl0' : w0.heap[wr.heap.size]? = some (.cells #[.int .i64 0, .int .i64 9, .int .i64 1] 3 (0, 0)) := by rw [hw0]; exact heap_alloc_new _ _
          clear hw0
          obtain ⟨R, hd⟩ := HDR.out
          have hlt := hd.lt
          refine (pick_any D R (some ⟨wr.heap.size, 0, none⟩) [0, 9, 1] 3 w0 (hd.below hb0) (IntBlk.ints hl0') (fun b off e => by injection e with e; injection e with e1 e2; omega) (by simp) (by simp)).mono ?_
          rintro e w7 ⟨j, hj, rfl, hd7, hg7⟩
          have HS7 := Lib.hid ((HSR.out.trans (Sav.of_below hb0)).trans (grown_save hg7 (fun x e => by injection e with e; exact e.symm)))
          have HD7 := Lib.hid (show ∃ R, DiceAt w7 D R from ⟨_, hd7⟩)
          generalize nth [0, 9, 1] j = pn' at *
          generalize wr.heap.size = gl at *
          clear hd hd7 hg7 hb0 hl0' HSR HDR hj hlt
          have p0' := ((HPL.out.keep (HS7.out.block px hpW hpD))).c0
          have p1' := ((HPL.out.keep (HS7.out.block px hpW hpD))).c1
          have p2' := ((HPL.out.keep (HS7.out.block px hpW hpD))).c2
          have pf := Lib.hid (HPL.out.keep (HS7.out.block px hpW hpD))
          have hfz : w7.frozen? ⟨px, 1, none⟩ = false := by have := pf.out; unfold PlanCell at this; simp [World.frozen?, this]
          go_upto_region 13 with fail
          refine gen_world fun w8 hw8 => ?_
          have hs8 : Sav (fun b => b = px) w7 w8 := by rw [hw8]; exact Sav.set _ _ _ rfl
          have HP8 := Lib.hid (show PlanCell w8 px p pn' ph from by rw [hw8]; have := pf.out; unfold PlanCell at this ⊢; simp [World.setCell, Array.getElem?_modify, this])
          clear hw8 p0' p1' p2' pf hfz
          have hDpx : D ≠ px := fun e => hpD e.symm
          have HD8 := Lib.hid (show ∃ R, DiceAt w8 D R from by obtain ⟨R, h⟩ := HD7.out; exact ⟨R, h.keep (fun k hk => hs8.block k (by have := HS7.out.size; omega) (fun e => by omega))⟩)
          have hp8 : ∀ b, ¬ b = px → ¬ b = D → b < w6.heap.size → w8.heap[b]? = w6.heap[b]? := fun b h1 h2 h3 => (hs8.block b (Nat.lt_of_lt_of_le h3 HS7.out.size) h1).trans (HS7.out.block b h3 h2)
          have h68 : Sav (fun b => b = D ∨ b = px) w6 w8 := ⟨hs8.os.trans HS7.out.os, hs8.tape.trans HS7.out.tape, hs8.output.trans HS7.out.output, Nat.le_trans HS7.out.size hs8.size, fun k hk hX => hp8 k (fun e => hX (.inr e)) (fun e => hX (.inl e)) hk⟩
          have H68 := Lib.hid h68
          have Z1 := HK1
          have Z2 := HK2
          have Z3 := HK3
          have ZA := AWB2
          have ZG := AGR2
          clear HK1 HK2 HK3 HPL AGR AWB AWB2 AGR2
          have HK1 := Lib.hid (Z1.out.sav h68 (fun e => e.elim hN1 hM1))
          have HK2 := Lib.hid (Z2.out.sav h68 (fun e => e.elim hN2 hM2))
          have HK3 := Lib.hid (Z3.out.sav h68 (fun e => e.elim hN3 hM3))
          have HPL := HP8
          have AWB := Lib.hid (fun (W : World) (hs : Sav (fun b => b = D) w8 W) => ZA.out W (h68.trans (hs.mono (fun _ _ e => .inl e))))
          have AGR := Lib.hid (fun (W : World) (pn lh lk lb : Int) (hs : Sav (fun b => b = D) w8 W) => ZG.out W pn lh lk lb (h68.trans (hs.mono (fun _ _ e => .inl e))))
          have HN := Lib.hid ((h68.block nx (blk_lt HNA.out) (fun e => e.elim hnD (fun e => hxn e.symm))).trans HNA.out)
          have LN := Lib.hid (blk_lt HN.out)
          have N1 := Lib.hid (show w8.cell? ⟨nx, 1, none⟩ = some (.int .i64 n1) from by rw [cell_of_row w8 nx 1 _ _ (0, 0) HN.out]; rfl)
          clear Z1 Z2 Z3 ZA ZG hp8 h68 HP8 HS7 HD7 hs8
          refine wp_region_J2 (GI (mdPL13 p pn' ph hh n1 D nx h1 h2 h3 y1 y2 y3 A1 B1 C1 A2 B2 C2 A3 B3 C3 l1 m1 t1 a1 b1 c1 l2 m2 t2 a2 b2 c2 l3 m3 t3 a3 b3 c3) (DcS w8 D)) (by kernel_rfl) (by kernel_rfl) (by kernel_rfl) ?_ ?_ ?_
          case refine_1 => exact fun V => GI.start (DcS.start HD8.out _ _)
          case refine_2 =>
            refine JSteps.cons (fun V Ld a W hLi hpre hR hI K hK => ?_) ?_
            · refine J_call rfl _ _ _ rfl enter_awake42 (by simp only [List.map_toArray, List.map_cons, List.map_nil]) (awake42 W (AWB.out W hI.st.sv)) ?_
              rintro e w' ⟨rfl, hb⟩
              exact ⟨_, rfl, hK _ _ (hI.put (R := fun w w' => Sav (fun b => b = D) w w') (Sav.of_below hb) 0 rfl rfl (hI.st.bl hb))⟩
            refine JSteps.cons (fun V Ld a W hLi hpre hR hI K hK => ?_) ?_
            · have p0 : Ld 0 = true := hpre 0 (List.mem_of_elem_eq_true (by kernel_rfl))
              have f0 := (hR.ev 0 rfl rfl p0).trans (hI.val 0 _ rfl p0)
              exact G_move rfl (.tmp 81) rfl f0 (hK _ _ (hI.put0 1 rfl rfl hI.st.up))
            refine JSteps.cons (fun V Ld a W hLi hpre hR hI K hK => ?_) ?_
            · have pg1 : Ld 1 = true := hpre 1 (List.mem_of_elem_eq_true (by kernel_rfl))
              refine G_g (hR.want' 1 rfl rfl rfl pg1 (hI.val 1 _ rfl pg1)) ?_
              have o6 := (hR.old 6 (by kernel_rfl)).trans (show _ = Value.pointer (some ⟨px, 0, none⟩) from rfl)
              exact J_load rfl _ (.tmp 6) rfl (by rw [o6]; exact ld_plan ((hI.st.sv.block px (blk_lt HPL.out) hpD).trans HPL.out)) (hK _ _ (hI.put0 2 rfl rfl hI.st.up))
            refine JSteps.cons (fun V Ld a W hLi hpre hR hI K hK => ?_) ?_
            · have pg1 : Ld 1 = true := hpre 1 (List.mem_of_elem_eq_true (by kernel_rfl))
              refine G_g (hR.want' 1 rfl rfl rfl pg1 (hI.val 1 _ rfl pg1)) ?_
              have o7 := (hR.old 7 (by kernel_rfl)).trans (show _ = Value.int .i64 hh from rfl)
              exact G_move rfl (.tmp 7) rfl o7 (hK _ _ (hI.put0 3 rfl rfl hI.st.up))
            refine JSteps.cons (fun V Ld a W hLi hpre hR hI K hK => ?_) ?_
            · have pg1 : Ld 1 = true := hpre 1 (List.mem_of_elem_eq_true (by kernel_rfl))
              refine G_g (hR.want' 1 rfl rfl rfl pg1 (hI.val 1 _ rfl pg1)) ?_
              have o5 := (hR.old 5 (by kernel_rfl)).trans (show _ = Value.pointer (some ⟨D, 0, none⟩) from rfl)
              exact G_move rfl (.tmp 5) rfl o5 (hK _ _ (hI.put0 4 rfl rfl hI.st.up))
            refine JSteps.cons (fun V Ld a W hLi hpre hR hI K hK => ?_) ?_
            · have pg1 : Ld 1 = true := hpre 1 (List.mem_of_elem_eq_true (by kernel_rfl))
              refine G_g (hR.want' 1 rfl rfl rfl pg1 (hI.val 1 _ rfl pg1)) ?_
              have p4 : Ld 4 = true := hpre 4 (List.mem_of_elem_eq_true (by kernel_rfl))
              have f4 := (hR.ev 4 rfl rfl p4).trans (hI.val 4 _ rfl p4)
              obtain ⟨R, hd⟩ := hI.st.dice
              refine J_call rfl _ _ _ rfl enter_next (by simp only [List.map_toArray, List.map_cons, List.map_nil, f4]; rfl) (next_any D R 5 W hd (by omega)) ?_
              rintro e w' ⟨rfl, hd', hg⟩
              exact ⟨_, rfl, hK _ _ (hI.put (R := fun w w' => Sav (fun b => b = D) w w') (grown_save hg (fun x e => by injection e with e; exact e.symm)) 5 rfl (nat_next R 5 (by omega)) (hI.st.go (grown_save hg (fun x e => by injection e with e; exact e.symm)) ⟨_, hd'⟩))⟩
            refine JSteps.cons (fun V Ld a W hLi hpre hR hI K hK => ?_) ?_
            · have pg1 : Ld 1 = true := hpre 1 (List.mem_of_elem_eq_true (by kernel_rfl))
              refine G_g (hR.want' 1 rfl rfl rfl pg1 (hI.val 1 _ rfl pg1)) ?_
              have p5 : Ld 5 = true := hpre 5 (List.mem_of_elem_eq_true (by kernel_rfl))
              obtain ⟨m1, em1, lm1⟩ := hI.val 5 _ rfl p5
              have f5 := (hR.ev 5 rfl rfl p5).trans em1
              exact J_binOp rfl .add _ (.const (.int .i64 1)) (.tmp 86) _ rfl (by rw [f5]; exact add_op1 _ _ m1 (by omega) W) (hK _ _ (hI.put0 6 rfl ⟨_, rfl⟩ hI.st.up))
            refine JSteps.cons (fun V Ld a W hLi hpre hR hI K hK => ?_) ?_
            · have pg1 : Ld 1 = true := hpre 1 (List.mem_of_elem_eq_true (by kernel_rfl))
              refine G_g (hR.want' 1 rfl rfl rfl pg1 (hI.val 1 _ rfl pg1)) ?_
              have o3 := (hR.old 3 (by kernel_rfl)).trans (show _ = Value.pointer (some ⟨nx, 0, none⟩) from rfl)
              exact J_indexAddr rfl _ (.tmp 3) (.const (.int .i64 1)) rfl (by rw [o3]; exact ia_arr2 W nx 1 (by omega)) (hK _ _ (hI.put0 7 rfl rfl hI.st.up))
            refine JSteps.cons (fun V Ld a W hLi hpre hR hI K hK => ?_) ?_
            · have pg1 : Ld 1 = true := hpre 1 (List.mem_of_elem_eq_true (by kernel_rfl))
              refine G_g (hR.want' 1 rfl rfl rfl pg1 (hI.val 1 _ rfl pg1)) ?_
              have p7 : Ld 7 = true := hpre 7 (List.mem_of_elem_eq_true (by kernel_rfl))
              have f7 := (hR.ev 7 rfl rfl p7).trans (hI.val 7 _ rfl p7)
              have c0 := (hI.st.sv.cell LN.out hnD).trans N1.out
              exact J_load rfl _ (.tmp 88) rfl (by rw [f7]; go_simp) (hK _ _ (hI.put0 8 rfl rfl hI.st.up))
            refine JSteps.cons (fun V Ld a W hLi hpre hR hI K hK => ?_) ?_
            · have pg1 : Ld 1 = true := hpre 1 (List.mem_of_elem_eq_true (by kernel_rfl))
              refine G_g (hR.want' 1 rfl rfl rfl pg1 (hI.val 1 _ rfl pg1)) ?_
              have p3 : Ld 3 = true := hpre 3 (List.mem_of_elem_eq_true (by kernel_rfl))
              have f3 := (hR.ev 3 rfl rfl p3).trans (hI.val 3 _ rfl p3)
              have p6 : Ld 6 = true := hpre 6 (List.mem_of_elem_eq_true (by kernel_rfl))
              obtain ⟨xa, exa⟩ := hI.val 6 _ rfl p6
              have f6 := (hR.ev 6 rfl rfl p6).trans exa
              have p8 : Ld 8 = true := hpre 8 (List.mem_of_elem_eq_true (by kernel_rfl))
              have f8 := (hR.ev 8 rfl rfl p8).trans (hI.val 8 _ rfl p8)
              exact J_build rfl _ _ rfl (by simp only [List.map_toArray, List.map_cons, List.map_nil, f3, f6, f8]; exact bd_lie W hh xa n1) (hK _ _ (hI.put0 9 rfl ⟨_, _, rfl⟩ hI.st.up))
            refine JSteps.cons (fun V Ld a W hLi hpre hR hI K hK => ?_) ?_
            · have pg1 : Ld 1 = true := hpre 1 (List.mem_of_elem_eq_true (by kernel_rfl))
              refine G_g (hR.want' 1 rfl rfl rfl pg1 (hI.val 1 _ rfl pg1)) ?_
              have o9 := (hR.old 9 (by kernel_rfl)).trans (show _ = Value.pointer (some ⟨g1, 0, none⟩) from rfl)
              exact J_load rfl _ (.tmp 9) rfl (by rw [o9]; exact ld_gift (HK1.out.sav hI.st.sv (hN1))) (hK _ _ (hI.put0 10 rfl rfl hI.st.up))
            refine JSteps.cons (fun V Ld a W hLi hpre hR hI K hK => ?_) ?_
            · have pg1 : Ld 1 = true := hpre 1 (List.mem_of_elem_eq_true (by kernel_rfl))
              refine G_g (hR.want' 1 rfl rfl rfl pg1 (hI.val 1 _ rfl pg1)) ?_
              have o10 := (hR.old 10 (by kernel_rfl)).trans (show _ = Value.pointer (some ⟨g2, 0, none⟩) from rfl)
              exact J_load rfl _ (.tmp 10) rfl (by rw [o10]; exact ld_gift (HK2.out.sav hI.st.sv (hN2))) (hK _ _ (hI.put0 11 rfl rfl hI.st.up))
            refine JSteps.cons (fun V Ld a W hLi hpre hR hI K hK => ?_) ?_
            · have pg1 : Ld 1 = true := hpre 1 (List.mem_of_elem_eq_true (by kernel_rfl))
              refine G_g (hR.want' 1 rfl rfl rfl pg1 (hI.val 1 _ rfl pg1)) ?_
              have o11 := (hR.old 11 (by kernel_rfl)).trans (show _ = Value.pointer (some ⟨g3, 0, none⟩) from rfl)
              exact J_load rfl _ (.tmp 11) rfl (by rw [o11]; exact ld_gift (HK3.out.sav hI.st.sv (hN3))) (hK _ _ (hI.put0 12 rfl rfl hI.st.up))
            refine JSteps.cons (fun V Ld a W hLi hpre hR hI K hK => ?_) ?_
            · have pg1 : Ld 1 = true := hpre 1 (List.mem_of_elem_eq_true (by kernel_rfl))
              refine G_g (hR.want' 1 rfl rfl rfl pg1 (hI.val 1 _ rfl pg1)) ?_
              have p2 : Ld 2 = true := hpre 2 (List.mem_of_elem_eq_true (by kernel_rfl))
              have f2 := (hR.ev 2 rfl rfl p2).trans (hI.val 2 _ rfl p2)
              have p9 : Ld 9 = true := hpre 9 (List.mem_of_elem_eq_true (by kernel_rfl))
              obtain ⟨lk, lb, el⟩ := hI.val 9 _ rfl p9
              have f9 := (hR.ev 9 rfl rfl p9).trans el
              have p10 : Ld 10 = true := hpre 10 (List.mem_of_elem_eq_true (by kernel_rfl))
              have f10 := (hR.ev 10 rfl rfl p10).trans (hI.val 10 _ rfl p10)
              have p11 : Ld 11 = true := hpre 11 (List.mem_of_elem_eq_true (by kernel_rfl))
              have f11 := (hR.ev 11 rfl rfl p11).trans (hI.val 11 _ rfl p11)
              have p12 : Ld 12 = true := hpre 12 (List.mem_of_elem_eq_true (by kernel_rfl))
              have f12 := (hR.ev 12 rfl rfl p12).trans (hI.val 12 _ rfl p12)
              refine J_call rfl _ _ _ rfl enter_agree (by simp only [List.map_toArray, List.map_cons, List.map_nil, f2, f9, f10, f11, f12]) (AGR.out W pn' hh lk lb hI.st.sv) ?_
              rintro e w' ⟨rfl, hb⟩
              exact ⟨_, rfl, hK _ _ (hI.put (R := fun w w' => Sav (fun b => b = D) w w') (Sav.of_below hb) 13 rfl rfl (hI.st.bl hb))⟩
            refine JSteps.cons (fun V Ld a W hLi hpre hR hI K hK => ?_) ?_
            · have p1 : Ld 1 = true := hpre 1 (List.mem_of_elem_eq_true (by kernel_rfl))
              have f1 := (hR.ev 1 rfl rfl p1).trans (hI.val 1 _ rfl p1)
              have p13 : Ld 13 = true := hpre 13 (List.mem_of_elem_eq_true (by kernel_rfl))
              have f13 := (hR.ev 13 rfl rfl p13).trans (hI.val 13 _ rfl p13)
              exact G_pick rfl (.tmp 82) (.tmp 94) (.const (.bool false)) rfl f1 (show _ = _ from f13) (hK _ _ (hI.put0 14 rfl rfl hI.st.up))
            refine JSteps.cons (fun V Ld a W hLi hpre hR hI K hK => ?_) trivial
            · have p14 : Ld 14 = true := hpre 14 (List.mem_of_elem_eq_true (by kernel_rfl))
              have f14 := (hR.ev 14 rfl rfl p14).trans (hI.val 14 _ rfl p14)
              exact G_assign rfl (.tmp 95) rfl f14 (hK _ _ (hI.put0 15 rfl rfl hI.st.up))
          case refine_3 =>
            intro V Ld w9 hLd hI
            have e15 : V 15 = .bool true := hI.val 15 _ rfl (hLd 15 (by decide))
            have hb9 := HW.out.trans ((H68.out.trans (hI.st.sv.mono (Y := fun b => b = D ∨ b = px) (fun _ _ e => .inl e))).below w.heap.size HW.out.size (fun k _ e => by rcases e with e | e <;> omega))
            clear hI hLd
            simp only [finL, putL, Act.put, Nat.reduceAdd]
            rw [e15]
            simp only [List.setIfInBounds_toArray, List.set_cons_succ, List.set_cons_zero]
            go_wp2_with fail
            go_ret
            exact RetB.bool rfl hb9
  · have hL := fun W => light_any A0 L0.length c0 W
    rw [decide_eq_false hlight] at hL
    have HLt := Lib.hid hL
    clear hL
    go_enter Tryd.func3, Tryd.ntmps3
    go_wp2_with fail
    refine ret_pure (HLt.out _) ?_
    go_wp2_with fail
    refine ret_below (awake42 _ (HB.out.below (below_alloc _ _) HB.out.1)) ?_
    intro w1 hb1
    go_wp2_with fail
    go_ret
    exact RetB.bool rfl (below_trans (below_alloc _ _) hb1)
end Go.Proofs.YtjckpammcgeloaaDoor
namespace Go.Proofs.YtjckpammcgeloaaDoor
open Go.RowKit

theorem cell_block_lt {w : World} {a : Addr} {v : Value} (h : w.cell? a = some v) : a.block < w.heap.size := by
  rcases Nat.lt_or_ge a.block w.heap.size with hlt | hge
  · exact hlt
  · unfold World.cell? at h; simp [Array.getElem?_eq_none hge] at h
theorem open_row {W : World} {x : Addr} {len cap : Nat} {zs : List Int} (hl : len ≤ cap) (hm : cap ≤ maxLen) (hz : zs.length = cap) (hcell : ∀ i, i < zs.length → W.cell? (x.add i) = some (.int .i64 (zs.getD i 0)))
    (hb : ∀ n ∈ zs, -9223372036854775808 ≤ n ∧ n ≤ 9223372036854775807) :
    ∃ ys : List Int, ys.length = len ∧ ys.length ≤ maxLen ∧ IntsAt W (some x) ys ∧ ∀ n ∈ ys, -9223372036854775808 ≤ n ∧ n ≤ 9223372036854775807 := by
  refine ⟨zs.take len, by simp; omega, by simp; omega, fun k hk => ?_, fun n hn => hb n (List.mem_of_mem_take hn)⟩
  have hk' : k < len := by simpa using Nat.lt_of_lt_of_le hk (List.length_take_le _ _)
  have h0 := hcell 0 (by omega)
  have hk0 := hcell k (by omega)
  obtain ⟨b, off, spot⟩ := x
  have hs : spot = none := by simpa [Addr.add] using World.cell?_spot h0
  subst hs
  have hlt := cell_block_lt hk0
  refine ⟨b, off, rfl, ?_, ?_⟩
  · unfold Addr.add at hlt; split at hlt <;> exact hlt
  · have e : (⟨b, off, none⟩ : Addr).add k = ⟨b, off + k, none⟩ := by
      unfold Addr.add; split
      · rename_i h; subst h; rfl
      · rfl
    rw [← e, hk0, nth_eq hk]
    simp [List.getD_eq_getElem?_getD, show k < zs.length by omega]
end Go.Proofs.YtjckpammcgeloaaDoor
namespace Go.Proofs.YtjckpammcgeloaaDoor
open Go.ChangeShapes
variable {H : Type} {enc : TypeId × Value → H} {P : Program} {w : World} {base : Nat} {spare : Nat → Bool} {held : Bool}

theorem trod_array2 {t e : TypeId} {fuel : Nat} {c0 c1 : Value} {x : DataW H × List MemPlace} (ht : P.underlying t = some (.array 2 e)) (hce : P.cellsOf e = 1)
    (h : DataW.trod enc P w base spare held fuel t [c0, c1] = some x) :
    ∃ y0 y1 n, x = (.agg [y0.1, y1.1], y0.2 ++ y1.2) ∧ DataW.trod enc P w base spare held n e [c0] = some y0 ∧ DataW.trod enc P w base spare held n e [c1] = some y1 := by
  cases fuel with
  | zero => simp [DataW.trod] at h
  | succ n =>
    unfold DataW.trod at h
    rw [ht] at h
    have r2 : List.range 2 = [0, 1] := rfl
    simp [r2, hce] at h
    obtain ⟨_, h⟩ := h
    cases h0 : DataW.trod enc P w base spare held n e [c0] with
    | none => simp [h0] at h
    | some y0 =>
      cases h1 : DataW.trod enc P w base spare held n e [c1] with
      | none => simp [h0, h1] at h
      | some y1 =>
        simp [h0, h1] at h
        exact ⟨y0, y1, n, h.symm, h0, h1⟩
end Go.Proofs.YtjckpammcgeloaaDoor
