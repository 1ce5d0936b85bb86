/-
  BudgetMade: the walk.
-/
import Derived.Test.YtmnkgfimdlhhiaaBudR
namespace Go.Proofs.Ytmnkgfimdlhhiaa
open Go.RowKit

theorem nth_le {L : List Int} {M : Int} (h : ∀ x ∈ L, x ≤ M) {k : Nat} (hk : k < L.length) : nth L k ≤ M := by
  rw [nth_eq hk]; exact h _ (List.getElem_mem hk)
theorem SpAt.set_ {w : World} {A : Option Addr} {S : List Spd} (h : SpAt w A S) (p : Addr) (u : Value) (hne : ∀ b off, A = some ⟨b, off, none⟩ → b ≠ p.block) : SpAt (w.setCell p u) A S := fun k hk => by
  obtain ⟨b, off, hA, hlt, hc, hd⟩ := h k hk
  have hb := Below.heap_setCell w p u b (hne b off hA)
  exact ⟨b, off, hA, by simpa [World.setCell] using hlt, (World.cell?_of_block (w := w) hb).trans hc, (World.cell?_of_block (w := w) hb).trans hd⟩
/-- What an append to the box's spends leaves. -/
theorem made_app {w wr w' : World} {D bx : Nat} {P A : Int} {v v' : Value} {R : List Int} {S S' : List Spd} {o : Obj} (hX : BudCell wr bx P A v) (hD : DiceAt wr D R) (hb : Below w.heap.size w wr) (hO : SpOwn wr (bx + 1) v S) (hDb : D < bx) (hwb : w.heap.size ≤ bx)
    (hg : (wr.alloc o).grownBy w' v.ownBlock) (hown : SpOwn w' (bx + 1) v' S') :
    BudCell w' bx P A v ∧ BudCell (w'.setCell ⟨bx, 2, none⟩ v') bx P A v' ∧ SpOwn (w'.setCell ⟨bx, 2, none⟩ v') (bx + 1) v' S' ∧ DiceAt (w'.setCell ⟨bx, 2, none⟩ v') D R ∧ Below w.heap.size w (w'.setCell ⟨bx, 2, none⟩ v') := by
  have hbl := blk_lt hX
  have hob : ∀ k, v.ownBlock = some k → bx + 1 ≤ k := fun k e => (hO.lt k e).1
  have hk : ∀ k, k ≤ bx → w'.heap[k]? = wr.heap[k]? := fun k hk => (hg.block k (by simp; omega) (fun e => by have := hob k e.symm; omega)).trans (heap_alloc_old wr o (by omega))
  have h1 : BudCell w' bx P A v := (hk _ (Nat.le_refl _)).trans hX
  have hd : DiceAt w' D R := hD.keep fun k hk' => hk k (by omega)
  have hbb : Below w.heap.size w w' := (hb.alloc hb.size o).grown hg (by have := hb.size; simp; omega) (fun k e => by have := hob k e; omega)
  exact ⟨h1, h1.set2 _, hown.set_ _ _ (by simp), hd.setCell _ _ (by simp; omega), below_set hbb _ _ (by simp; omega)⟩
theorem last_of {S : List Spd} (h : ∀ k, k < S.length → 0 ≤ tS S k ∧ tS S k ≤ 25) (l : Nat) (hl : l < S.length) : 0 ≤ tS S l ∧ tS S l ≤ 25 := h l hl

set_option maxRecDepth 100000 in
set_option maxHeartbeats 8000000 in
theorem budgetMade_walk (A0 : Option Addr) (L0 : List Int) (c0 : Nat) (nn : Int) (w : World)
    (hl0 : L0.length ≤ maxLen) (hI0 : IntsAt w A0 L0) (_ : ∀ n ∈ L0, -9223372036854775808 ≤ n ∧ n ≤ 9223372036854775807) (_ : -9223372036854775808 ≤ nn ∧ nn ≤ 9223372036854775807) :
    Calls Try.prog 4 #[.slice A0 L0.length c0, .int .i64 nn] w (RetB (.bool true) w) := by
  have hL := light_any A0 L0.length c0 w
  by_cases hlight : (L0.length : Int) ≤ 500
  · rw [decide_eq_true hlight] at hL
    have HLt := Lib.hid hL
    clear hL hlight
    go_enter Try.func4, Try.ntmps4
    go_wp2_with fail
    refine ret_pure HLt.out ?_
    clear HLt
    go_wp2_with fail
    refine (roll_any A0 L0 c0 _ hl0 hI0).mono ?_
    rintro e w1 ⟨D, rfl, hDs, hD, hb1⟩
    have hDl := hD.lt
    clear hI0
    go_wp2_with fail
    refine (budget_any D L0 w1 hD).mono ?_
    intro e w2 hr
    obtain ⟨P, A, S, v, R2, tm, rfl, hP, hA, hM, htm, hl, hown, hd2, hg2⟩ := hr
    obtain ⟨C, c, rfl, hC, -, hCb⟩ := hown.at_
    have hbw2 : Below w.heap.size w w2 := hb1.trans (grown_below hg2 hDs hb1.size)
    have hb1z := hb1.size
    have HC := Lib.hid hC
    have HO2 := Lib.hid hown
    have HD2 := Lib.hid hd2
    have hs2 := hbw2.size
    have hD2l := hd2.lt
    have hg2s := hg2.size
    have HLA := Lib.hid (fun (l : Nat) (hl : l < S.length) => (show 0 ≤ tS S l ∧ tS S l ≤ 25 from ⟨(hM.rows l hl).1, by have := hM.last l hl; omega⟩))
    clear hC hown hd2 hg2 hD hb1 hM htm
    obtain ⟨bx, hbx⟩ : ∃ bx, bx = w2.heap.size := ⟨_, rfl⟩
    have HCB := Lib.hid (show ∀ b off, C = some ⟨b, off, none⟩ → b < bx from fun b off e => by rw [hbx]; exact (hCb b off e).2)
    clear hCb
    by_cases h0 : S.length = 0
    case pos =>
      have n0 : ¬ (0 : Int) < (S.length : Int) := by omega
      have HH0 := Lib.hid h0
      clear h0
      go_wp2_with fail
      have HX3 := Lib.hid (show BudCell (w2.alloc (.cells #[.int .i64 P, .int .i64 A, .slice C S.length c] 24)) bx P A (.slice C S.length c) from BudCell.new _ _ _ hbx)
      have HO3 := Lib.hid (HO2.out.below (below_alloc w2 (.cells #[.int .i64 P, .int .i64 A, .slice C S.length c] 24)))
      have HD3 := Lib.hid (HD2.out.alloc (.cells #[.int .i64 P, .int .i64 A, .slice C S.length c] 24))
      have hbw3 : Below w.heap.size w (w2.alloc (.cells #[.int .i64 P, .int .i64 A, .slice C S.length c] 24)) := hbw2.trans ((below_alloc _ _).mono hs2)
      rw [← hbx]
      have hDbx : D < bx := by omega
      have hw1bx : w1.heap.size ≤ bx := by omega
      have hwbx : w.heap.size ≤ bx := by omega
      clear HO2 HD2 HC hbx
      
      refine (next_any D R2 20 _ HD3.out (by omega)).mono ?_
      rintro e w4 ⟨rfl, hD4, hg4⟩
      obtain ⟨m1, m2⟩ := nextV_range R2 20 (by omega)
      generalize nextV R2 20 = d at *
      generalize R2.tail = R4 at *
      have hX4 := HX3.out.grown hg4 (by omega)
      have hO4 := HO3.out.grown hg4 (by omega)
      have hbw4 : Below w.heap.size w w4 := hbw3.grown hg4 hbw3.size (fun j hj => by injection hj with hj; omega)
      have hD4l := hD4.lt
      have hs34 := hg4.size
      clear hg4 HX3 HO3 HD3
      
      go_wp2_with fail
      obtain ⟨LL, hLL⟩ : ∃ LL : List Int, LL = [0, -1, 1, d, 1099511627776, 1099511627777, -1] := ⟨_, rfl⟩
      have hlen : LL.length = 7 := by rw [hLL]; rfl
      have hle : ∀ x ∈ LL, x ≤ 1099511627777 := by rw [hLL]; intro x hx; simp at hx; omega
      have hIL : IntsAt (w4.alloc (.cells (LL.map (Value.int .i64)).toArray 3)) (some ⟨w4.heap.size, 0, none⟩) LL := lit_ints w4 LL
      have hof := of_any D R4 (some ⟨w4.heap.size, 0, none⟩) LL 7 _ (hD4.alloc _) hIL (fun b off e => by injection e with e; injection e with e1; omega) (by omega) (by omega)
      rw [hlen] at hof
      have hX5' := hX4.alloc (.cells (LL.map (Value.int .i64)).toArray 3)
      have hO5' := hO4.below (below_alloc w4 (.cells (LL.map (Value.int .i64)).toArray 3))
      have hb5' : Below w.heap.size w (w4.alloc (.cells (LL.map (Value.int .i64)).toArray 3)) := hbw4.trans ((below_alloc _ _).mono hbw4.size)
      have hcells : (LL.map (Value.int .i64)).toArray = #[.int .i64 (0), .int .i64 (-1), .int .i64 (1), .int .i64 (d), .int .i64 (1099511627776), .int .i64 (1099511627777), .int .i64 (-1)] := by rw [hLL]; rfl
      rw [hcells] at hof hX5' hO5' hb5'
      refine hof.mono ?_
      rintro e w5 ⟨k, hk, rfl, hD5, hg5⟩
      have htv : nth LL k ≤ 1099511627777 := nth_le hle hk
      generalize nth LL k = tv at *
      have hX5 := hX5'.grown hg5 (by omega)
      have hO5 := hO5'.grown hg5 (by omega)
      have hbw5 : Below w.heap.size w w5 := hb5'.grown hg5 hb5'.size (fun j hj => by injection hj with hj; omega)
      have hs45 := hg5.size
      simp at hs45
      generalize R4.tail = R5 at *
      have HX5 := Lib.hid hX5
      have HO5 := Lib.hid hO5
      have HD5 := Lib.hid hD5
      have hD5l := hD5.lt
      clear hX4 hO4 hD4 hX5' hO5' hb5' hof hIL hcells hle hlen hLL hk hg5 hX5 hO5 hD5
      go_wp2_with fail
      have hof := of_any D R5 (some ⟨w5.heap.size, 0, none⟩) [1, 2, 3, 0, -1, 1073741824, 1073741825] 7 _ (HD5.out.alloc (.cells #[.int .i64 1, .int .i64 2, .int .i64 3, .int .i64 0, .int .i64 (-1), .int .i64 1073741824, .int .i64 1073741825] 3)) (lit_ints w5 [1, 2, 3, 0, -1, 1073741824, 1073741825]) (fun b off e => by injection e with e; injection e with e1; omega) (by simp) (by simp)
      refine hof.mono ?_
      rintro e w6 ⟨k2, hk2, rfl, hD6, hg6⟩
      generalize nth [1, 2, 3, 0, -1, 1073741824, 1073741825] k2 = cv at *
      have hX6 := (HX5.out.alloc (.cells #[.int .i64 1, .int .i64 2, .int .i64 3, .int .i64 0, .int .i64 (-1), .int .i64 1073741824, .int .i64 1073741825] 3)).grown hg6 (by omega)
      have hO6 := (HO5.out.below (below_alloc w5 (.cells #[.int .i64 1, .int .i64 2, .int .i64 3, .int .i64 0, .int .i64 (-1), .int .i64 1073741824, .int .i64 1073741825] 3))).grown hg6 (by omega)
      have hbw6 : Below w.heap.size w w6 := (hbw5.trans ((below_alloc w5 (.cells #[.int .i64 1, .int .i64 2, .int .i64 3, .int .i64 0, .int .i64 (-1), .int .i64 1073741824, .int .i64 1073741825] 3)).mono hbw5.size)).grown hg6 (by have := hbw5.size; simp; omega) (fun j hj => by injection hj with hj; omega)
      generalize R5.tail = R6 at *
      have HX6 := Lib.hid hX6
      have HO6 := Lib.hid hO6
      have HD6 := Lib.hid hD6
      clear hof hk2 hg6 hX6 hO6 hD6 HX5 HO5 HD5
      have x0 := HX6.out.c0
      have x1 := HX6.out.c1
      have x2 := HX6.out.c2
      go_wp2_with fail
      obtain ⟨Cx, cx, ec, hC6, -, -⟩ := HO6.out.at_
      injection ec with ec1 ec2 ec3
      subst ec1; subst ec3
      have HSP := Lib.hid HO6.out.spot
      have HNC := Lib.hid HO6.out.nilcap
      refine ret_below (agree_true P A C S c tv cv w6 hC6 HSP.out HNC.out (by omega) (by omega)) fun w7 hb7 => ?_
      have hbw7 : Below w.heap.size w w7 := hbw6.trans (hb7.mono hbw6.size)
      have HX7 := Lib.hid (HX6.out.below hb7)
      have HO7 := Lib.hid (HO6.out.below hb7)
      have hD7 := HD6.out.below hb7
      clear x0 x1 x2 HX6 HO6 HD6 hC6
      go_wp2_with fail
      refine (next_any D R6 6 _ hD7 (by omega)).mono ?_
      rintro e w8 ⟨rfl, hD8, hg8⟩
      obtain ⟨m3, m4⟩ := nextV_range R6 6 (by omega)
      generalize nextV R6 6 = q at *
      generalize R6.tail = R8 at *
      have hbw8 : Below w.heap.size w w8 := hbw7.grown hg8 hbw7.size (fun j hj => by injection hj with hj; omega)
      have hX8 := HX7.out.grown hg8 (by omega)
      have hO8 := HO7.out.grown hg8 (by omega)
      have x0 := hX8.c0
      have x1 := hX8.c1
      have x2 := hX8.c2
      have f0 := hX8.frozen 0
      have f1 := hX8.frozen 1
      have f2 := hX8.frozen 2
      have hD8l := hD8.lt
      have HX8 := Lib.hid hX8
      have HO8 := Lib.hid hO8
      have HD8 := Lib.hid hD8
      obtain ⟨Cy, cy, ec, hC8, -, -⟩ := hO8.at_
      injection ec with ec1 ec2 ec3
      subst ec1; subst ec3
      have HC8 := Lib.hid hC8
      clear hX8 hO8 hD8 hg8 hD7 HX7 HO7 hC8
      by_cases q0 : q = 0
      · have b0 : (q == 0) = true := by simp [q0]
        go_wp2_with fail
        have hof := of_any D R8 (some ⟨w8.heap.size, 0, none⟩) [0, -1, 1099511627776, 1099511627777] 4 _ (HD8.out.alloc (.cells #[.int .i64 0, .int .i64 (-1), .int .i64 1099511627776, .int .i64 1099511627777] 3)) (lit_ints w8 [0, -1, 1099511627776, 1099511627777]) (fun b off e => by injection e with e; injection e with e1; omega) (by simp) (by simp)
        refine hof.mono ?_
        rintro e w9 ⟨k3, hk3, rfl, hD9, hg9⟩
        generalize nth [0, -1, 1099511627776, 1099511627777] k3 = pv at *
        have hX9 := (HX8.out.alloc (.cells #[.int .i64 0, .int .i64 (-1), .int .i64 1099511627776, .int .i64 1099511627777] 3)).grown hg9 (by omega)
        have hO9 := (HO8.out.below (below_alloc w8 (.cells #[.int .i64 0, .int .i64 (-1), .int .i64 1099511627776, .int .i64 1099511627777] 3))).grown hg9 (by omega)
        have hbw9 : Below w.heap.size w w9 := (hbw8.trans ((below_alloc w8 (.cells #[.int .i64 0, .int .i64 (-1), .int .i64 1099511627776, .int .i64 1099511627777] 3)).mono hbw8.size)).grown hg9 (by have := hbw8.size; simp; omega) (fun j hj => by injection hj with hj; omega)
        obtain ⟨Cz, cz, ec, hCz', -, -⟩ := hO9.at_
        injection ec with ec1 ec2 ec3
        subst ec1; subst ec3
        have hCz := hCz'.set_ ⟨bx, 0, none⟩ (.int .i64 pv) (fun b off e => by have := HCB.out b off e; simp; omega)
        clear hCz'
        have HXF := Lib.hid (hX9.set0 pv)
        have HCF := Lib.hid hCz
        have hbwF : Below w.heap.size w (w9.setCell ⟨bx, 0, none⟩ (.int .i64 pv)) := below_set hbw9 _ _ (by simp; omega)
        have g0 := hX9.c0
        have g1 := hX9.c1
        have g2 := hX9.c2
        have g3 := hX9.frozen 0
        clear hof hk3 hg9 hD9 hO9 hCz hX9 x0 x1 x2 f0 f1 f2 HX8 HO8 HC8
        
        go_wp2_with fail
        refine ret_below (awake_true _) fun wa hba => ?_
        have hxa := HXF.out.below hba
        have y0 := hxa.c0
        have y1 := hxa.c1
        have y2 := hxa.c2
        have HCa := Lib.hid (HCF.out.below hba)
        have hbwa := hbwF.trans (hba.mono hbwF.size)
        clear hxa
        go_wp2_with fail
        refine ret_below (agree_true pv A C S c tv cv _ HCa.out HSP.out HNC.out (by omega) (by omega)) fun wb hbb => ?_
        go_wp2
        go_ret
        exact RetB.bool rfl (hbwa.trans (hbb.mono hbwa.size))
      by_cases q1 : q = 1
      · have b0 : (q == 0) = false := by simp [q0]
        have b1 : (q == 1) = true := by simp [q1]
        go_wp2_with fail
        have hof := of_any D R8 (some ⟨w8.heap.size, 0, none⟩) [-1, 1073741824, 1073741825, 0] 4 _ (HD8.out.alloc (.cells #[.int .i64 (-1), .int .i64 1073741824, .int .i64 1073741825, .int .i64 0] 3)) (lit_ints w8 [-1, 1073741824, 1073741825, 0]) (fun b off e => by injection e with e; injection e with e1; omega) (by simp) (by simp)
        refine hof.mono ?_
        rintro e w9 ⟨k3, hk3, rfl, hD9, hg9⟩
        generalize nth [-1, 1073741824, 1073741825, 0] k3 = pv at *
        have hX9 := (HX8.out.alloc (.cells #[.int .i64 (-1), .int .i64 1073741824, .int .i64 1073741825, .int .i64 0] 3)).grown hg9 (by omega)
        have hO9 := (HO8.out.below (below_alloc w8 (.cells #[.int .i64 (-1), .int .i64 1073741824, .int .i64 1073741825, .int .i64 0] 3))).grown hg9 (by omega)
        have hbw9 : Below w.heap.size w w9 := (hbw8.trans ((below_alloc w8 (.cells #[.int .i64 (-1), .int .i64 1073741824, .int .i64 1073741825, .int .i64 0] 3)).mono hbw8.size)).grown hg9 (by have := hbw8.size; simp; omega) (fun j hj => by injection hj with hj; omega)
        obtain ⟨Cz, cz, ec, hCz', -, -⟩ := hO9.at_
        injection ec with ec1 ec2 ec3
        subst ec1; subst ec3
        have hCz := hCz'.set_ ⟨bx, 1, none⟩ (.int .i64 pv) (fun b off e => by have := HCB.out b off e; simp; omega)
        clear hCz'
        have HXF := Lib.hid (hX9.set1 pv)
        have HCF := Lib.hid hCz
        have hbwF : Below w.heap.size w (w9.setCell ⟨bx, 1, none⟩ (.int .i64 pv)) := below_set hbw9 _ _ (by simp; omega)
        have g0 := hX9.c0
        have g1 := hX9.c1
        have g2 := hX9.c2
        have g3 := hX9.frozen 1
        clear hof hk3 hg9 hD9 hO9 hCz hX9 x0 x1 x2 f0 f1 f2 HX8 HO8 HC8
        
        go_wp2_with fail
        refine ret_below (awake_true _) fun wa hba => ?_
        have hxa := HXF.out.below hba
        have y0 := hxa.c0
        have y1 := hxa.c1
        have y2 := hxa.c2
        have HCa := Lib.hid (HCF.out.below hba)
        have hbwa := hbwF.trans (hba.mono hbwF.size)
        clear hxa
        go_wp2_with fail
        refine ret_below (agree_true P pv C S c tv cv _ HCa.out HSP.out HNC.out (by omega) (by omega)) fun wb hbb => ?_
        go_wp2
        go_ret
        exact RetB.bool rfl (hbwa.trans (hbb.mono hbwa.size))
      by_cases q2 : q = 2
      · skip
        have b0 : (q == 0) = false := by simp [q0]
        have b1 : (q == 1) = false := by simp [q1]
        have b2 : (q == 2) = true := by simp [q2]
        clear q0 q1 q2
        have hSt8 : St18 w D w1.heap.size bx P A (.slice C S.length c) S w8 := ⟨HX8.out, HO8.out, ⟨R8, HD8.out⟩, hbw8, by have := blk_lt HX8.out; omega⟩
        have hne8 : ∀ k, (Value.slice C S.length c).ownBlock = some k → k ≠ bx := own_ne HO8.out HCB.out

        have hDw8 : D < w8.heap.size := by omega
        have v1 : IntKind.i64.wrap (-1) = -1 := by decide
        clear HX8 HO8 HC8 HD8 HLA HCB HSP HNC
        have hbxl := blk_lt hSt8.box
        go_wp2_with fail
        go_region_law (first
            | (refine step_of _ rfl (.tmp 70) (.tmp 74) rfl w D w1.heap.size bx P A (.slice C S.length c) S hDs hDl hDbx _ [0, -1, 1099511627777] (by rfl) (by rfl) (by simp) (by simp) (by repeat (first | assumption | apply St18.drew | apply St18.alloc)) (by first | exact Lit.drew (Lit.new _ _ [0, -1, 1099511627777] (by simp)) | exact Lit.drew ((Lit.new _ _ [0, -1, 1099511627777] (by simp)).alloc _)) (by simp; omega) ?_; intro k1 u1 hk1 hst1 hgr1; have ya1 := hst1.box.c2; have yb1 := hst1.box.frozen 2; have yc1 := blk_lt hst1.box)
            | (refine step_of _ rfl (.tmp 76) (.tmp 77) rfl w D w1.heap.size bx P A (.slice C S.length c) S hDs hDl hDbx _ [0, 1, 9, 1073741825] (by rfl) (by rfl) (by simp) (by simp) (by repeat (first | assumption | apply St18.drew | apply St18.alloc)) (by first | exact Lit.new _ _ [0, 1, 9, 1073741825] (by simp) | exact Lit.grown (Lit.drew (Lit.new _ _ [0, 1, 9, 1073741825] (by simp))) hgr1 (by simp; omega) | exact Lit.grown (Lit.drew ((Lit.new _ _ [0, 1, 9, 1073741825] (by simp)).alloc _)) hgr1 (by simp; omega)) (by have := hgr1.size; simp at this; simp; omega) ?_; intro k2 u2 hk2 hst2 hgr2; have ya2 := hst2.box.c2; have yb2 := hst2.box.frozen 2; have yc2 := blk_lt hst2.box)
            | (refine step_app3 _ rfl (.tmp 69) (.tmp 80) rfl w u2 D w1.heap.size bx P A (nth [0, -1, 1099511627777] k1) (nth [0, 1, 9, 1073741825] k2) (.slice C S.length c) S.length S (by rfl) (by rfl) ⟨rfl, rfl, rfl, rfl⟩ rfl (by omega) hst2 hb1z (Nat.le_trans hw1bx (Nat.le_of_lt (blk_lt hst2.box))) hne8 ?_; intro g cap w9 hown9 hX9 hbw9 hg9 hc9 hf9))
        all_goals
          obtain ⟨hCz, hl9', hX9, hbwF⟩ := Cut18.mk hown9 hX9 hbw9 hg9 rfl hwbx
          generalize S ++ [(nth [0, -1, 1099511627777] k1, nth [0, 1, 9, 1073741825] k2)] = S9 at *
          have HXF := Lib.hid hX9
          have HCF := Lib.hid hCz
          have HL9 := Lib.hid hl9'
          have hl9 : S9.length ≤ 300 := by omega
          clear hCz hl9' hSt8 hst1 hst2 hgr1 hgr2 hk1 hk2 ya1 yb1 yc1 ya2 yb2 yc2 hown9 hbw9 hg9 x0 x1 x2 f0 f1 f2
          go_wp2_with fail
          refine ret_below (awake_true _) fun wa hba => ?_
          have hxa := HXF.out.below hba
          have y0 := hxa.c0
          have y1 := hxa.c1
          have y2 := hxa.c2
          have HCa := Lib.hid (HCF.out.below hba)
          have hbwa := hbwF.trans (hba.mono hbwF.size)
          clear hxa
          go_wp2_with fail
          have hag := agree_true P A (some ⟨g, 0, none⟩) S9 cap tv cv wa HCa.out (fun a ha => by injection ha with ha; exact .inl (ha ▸ rfl)) (fun h => by cases h) (by omega) (by omega)
          rw [HL9.out] at hag
          refine ret_below hag fun wb hbb => ?_
          go_wp2
          go_ret
          exact RetB.bool rfl (hbwa.trans (hbb.mono hbwa.size))
      by_cases q3 : q = 3
      · skip
        have b0 : (q == 0) = false := by simp [q0]
        have b1 : (q == 1) = false := by simp [q1]
        have b2 : (q == 2) = false := by simp [q2]
        have b3 : (q == 3) = true := by simp [q3]
        clear q0 q1 q2
        go_wp2_with fail
        obtain ⟨w9, hw9⟩ : ∃ w9, w9 = (((w8.setCell ⟨bx, 0, none⟩ (.int .i64 1)).setCell ⟨bx, 1, none⟩ (.int .i64 1)).setCell ⟨bx, 2, none⟩ (.slice none 0 0)) := ⟨_, rfl⟩
        rw [← hw9]
        have hX9 : BudCell w9 bx 1 1 (.slice none 0 0) := by rw [hw9]; exact ((HX8.out.set0 1).set1 1).set2 _
        have hD9 : DiceAt w9 D R8 := by rw [hw9]; exact ((HD8.out.setCell _ _ (by simp; omega)).setCell _ _ (by simp; omega)).setCell _ _ (by simp; omega)
        have hbw9 : Below w.heap.size w w9 := by rw [hw9]; exact below_set (below_set (below_set hbw8 _ _ (by simp; omega)) _ _ (by simp; omega)) _ _ (by simp; omega)
        have HX9 := Lib.hid hX9
        have HD9 := Lib.hid hD9
        clear hw9 hX9 hD9 x0 x1 x2 f0 f1 f2 HX8 HO8 HC8 HD8
        go_loopw [11] (fun i wr => ∃ (k : Nat) (S' : List Spd) (v' : Value) (R' : List Int), k ≤ 257 ∧ i = .int .i64 k ∧ S'.length = k ∧ BudCell wr bx 1 1 v' ∧ SpOwn wr (bx + 1) v' S' ∧ DiceAt wr D R' ∧ Below w.heap.size w wr) (fun i _ => 258 - (intOf i).toNat)
        case atStart => exact ⟨0, [], _, R8, by omega, rfl, rfl, HX9.out, SpOwn.nil _ _, HD9.out, hbw9⟩
        case round =>
          clear HX9 HD9
          obtain ⟨k, S', v', R', hk, rfl, hSl, hX, hO, hDr, hbr⟩ := hrel
          obtain ⟨C', c', rfl, -, -, -⟩ := hO.at_
          have HX := Lib.hid hX
          have HO := Lib.hid hO
          have HSl := Lib.hid hSl
          have hxl := blk_lt hX
          clear hX hO hSl
          go_wp2_with fail
          refine (next_any D R' 2 _ hDr (by omega)).mono ?_
          rintro e w10 ⟨rfl, hD10, hg10⟩
          obtain ⟨m5, m6⟩ := nextV_range R' 2 (by omega)
          generalize nextV R' 2 = x5 at *
          generalize R'.tail = R10 at *
          have hX10 := HX.out.grown hg10 (by omega)
          have HO10 := Lib.hid (HO.out.grown hg10 (by omega))
          have hbw10 : Below w.heap.size w w10 := hbr.grown hg10 hbr.size (fun j hj => by injection hj with hj; omega)
          have y2 := hX10.c2
          have y0 := hX10.c0
          have y1 := hX10.c1
          have y3 := hX10.frozen 2
          have hxl10 := blk_lt hX10
          have HX10 := Lib.hid hX10
          have HD10 := Lib.hid hD10
          clear HX HO hX10 hg10 hDr hD10
          by_cases hlt : (k : Int) < 256 + x5
          · go_wp2_with (first | (at_builtin; refine app_spends rfl (.tmp 94) (.tmp 97) rfl (base := bx + 1) (S := S') (T := [((k : Int), 1)]) (v := .slice C' S'.length c') (b := w10.heap.size) (off := 0) (c := 1) rfl (HO10.out.below (below_alloc _ _)) rfl (one_at _ _ _) (by have := HSl.out; simp; omega) (by simp; omega) ?_; intro v8 w11 hown8 hg8 hb8; obtain ⟨C8, c8, ev, -, -, -⟩ := hown8.at_; rw [show (S' ++ [((k : Int), (1 : Int))]).length = S'.length + 1 by simp] at ev; subst ev; have hA8 := made_app HX10.out HD10.out hbw10 HO10.out hDbx hwbx hg8 hown8; have z2 := hA8.1.c2; have z3 := hA8.1.frozen 2; have HA8 := Lib.hid hA8.2; clear hA8 hown8 hg8 hb8) | fail)
            go_roundw
            case rel => exact ⟨k + 1, S' ++ [((k : Int), 1)], _, R10, by omega, by go_num, by simp [HSl.out], HA8.out⟩
            case measure => simp [intOf]; omega
          · obtain ⟨Cz, cz, ec, hCz, -, -⟩ := HO10.out.at_
            injection ec with ec1 ec2 ec3
            subst ec1; subst ec3
            have HXF := Lib.hid HX10.out
            have HCF := Lib.hid hCz
            have hbwF := hbw10
            have HSP := Lib.hid HO10.out.spot
            have HNC := Lib.hid HO10.out.nilcap
            have hsl := HSl.out
            have hsl2 : S'.length ≤ 300 := by omega
            clear hsl HO10 HX10 HD10 hCz
            go_wp2_with fail
            refine ret_below (awake_true _) fun wa hba => ?_
            have hxa := HXF.out.below hba
            have y0 := hxa.c0
            have y1 := hxa.c1
            have y2 := hxa.c2
            have HCa := Lib.hid (HCF.out.below hba)
            have hbwa := hbwF.trans (hba.mono hbwF.size)
            clear hxa
            go_wp2_with fail
            refine ret_below (agree_true 1 1 C' S' c' 400 1 _ HCa.out HSP.out HNC.out (by omega) (by omega)) fun wb hbb => ?_
            go_wp2
            go_ret
            exact RetB.bool rfl (hbwa.trans (hbb.mono hbwa.size))
      have b0 : (q == 0) = false := by simp [q0]
      have b1 : (q == 1) = false := by simp [q1]
      have b2 : (q == 2) = false := by simp [q2]
      have b3 : (q == 3) = false := by simp [q3]
      clear q0 q1 q2 q3
      have HXF := Lib.hid HX8.out
      have HCF := Lib.hid HC8.out
      have hbwF := hbw8
      
      go_wp2_with fail
      refine ret_below (awake_true _) fun wa hba => ?_
      have hxa := HXF.out.below hba
      have y0 := hxa.c0
      have y1 := hxa.c1
      have y2 := hxa.c2
      have HCa := Lib.hid (HCF.out.below hba)
      have hbwa := hbwF.trans (hba.mono hbwF.size)
      clear hxa
      go_wp2_with fail
      refine ret_below (agree_true P A C S c tv cv _ HCa.out HSP.out HNC.out (by omega) (by omega)) fun wb hbb => ?_
      go_wp2
      go_ret
      exact RetB.bool rfl (hbwa.trans (hbb.mono hbwa.size))
    case neg =>
      obtain ⟨l, e1, hl1, hl2⟩ : ∃ l : Nat, (S.length : Int) - 1 = (l : Int) ∧ l < S.length ∧ S.length - 1 = l := ⟨S.length - 1, by omega, by omega, rfl⟩
      have n0 : (0 : Int) < (S.length : Int) := by omega
      have HH0 := Lib.hid hl2
      obtain ⟨la0, la1⟩ := HLA.out l hl1
      obtain ⟨b, off, rfl, hbl, e0, -⟩ := HC.out l hl1
      clear h0 hl2
      go_wp2_with fail
      generalize tS S l = la at *
      have HX3 := Lib.hid (show BudCell (w2.alloc (.cells #[.int .i64 P, .int .i64 A, .slice (some ⟨b, off, none⟩) S.length c] 24)) bx P A (.slice (some ⟨b, off, none⟩) S.length c) from BudCell.new _ _ _ hbx)
      have HO3 := Lib.hid (HO2.out.below (below_alloc w2 (.cells #[.int .i64 P, .int .i64 A, .slice (some ⟨b, off, none⟩) S.length c] 24)))
      have HD3 := Lib.hid (HD2.out.alloc (.cells #[.int .i64 P, .int .i64 A, .slice (some ⟨b, off, none⟩) S.length c] 24))
      have hbw3 : Below w.heap.size w (w2.alloc (.cells #[.int .i64 P, .int .i64 A, .slice (some ⟨b, off, none⟩) S.length c] 24)) := hbw2.trans ((below_alloc _ _).mono hs2)
      rw [← hbx]
      have hDbx : D < bx := by omega
      have hw1bx : w1.heap.size ≤ bx := by omega
      have hwbx : w.heap.size ≤ bx := by omega
      clear HO2 HD2 HC hbx e0 e1 n0 hbl
      
      refine (next_any D R2 20 _ HD3.out (by omega)).mono ?_
      rintro e w4 ⟨rfl, hD4, hg4⟩
      obtain ⟨m1, m2⟩ := nextV_range R2 20 (by omega)
      generalize nextV R2 20 = d at *
      generalize R2.tail = R4 at *
      have hX4 := HX3.out.grown hg4 (by omega)
      have hO4 := HO3.out.grown hg4 (by omega)
      have hbw4 : Below w.heap.size w w4 := hbw3.grown hg4 hbw3.size (fun j hj => by injection hj with hj; omega)
      have hD4l := hD4.lt
      have hs34 := hg4.size
      clear hg4 HX3 HO3 HD3
      have v1 : IntKind.i64.wrap (la - 1) = la - 1 := IntWalk.i64_in _ (by omega)
      have v2 : IntKind.i64.wrap (la + 1) = la + 1 := IntWalk.i64_in _ (by omega)
      have v3 : IntKind.i64.wrap (la + d) = la + d := IntWalk.i64_in _ (by omega)
      go_wp2_with fail
      obtain ⟨LL, hLL⟩ : ∃ LL : List Int, LL = [la, la - 1, la + 1, la + d, 1099511627776, 1099511627777, -1] := ⟨_, rfl⟩
      have hlen : LL.length = 7 := by rw [hLL]; rfl
      have hle : ∀ x ∈ LL, x ≤ 1099511627777 := by rw [hLL]; intro x hx; simp at hx; omega
      have hIL : IntsAt (w4.alloc (.cells (LL.map (Value.int .i64)).toArray 3)) (some ⟨w4.heap.size, 0, none⟩) LL := lit_ints w4 LL
      have hof := of_any D R4 (some ⟨w4.heap.size, 0, none⟩) LL 7 _ (hD4.alloc _) hIL (fun b off e => by injection e with e; injection e with e1; omega) (by omega) (by omega)
      rw [hlen] at hof
      have hX5' := hX4.alloc (.cells (LL.map (Value.int .i64)).toArray 3)
      have hO5' := hO4.below (below_alloc w4 (.cells (LL.map (Value.int .i64)).toArray 3))
      have hb5' : Below w.heap.size w (w4.alloc (.cells (LL.map (Value.int .i64)).toArray 3)) := hbw4.trans ((below_alloc _ _).mono hbw4.size)
      have hcells : (LL.map (Value.int .i64)).toArray = #[.int .i64 (la), .int .i64 (la - 1), .int .i64 (la + 1), .int .i64 (la + d), .int .i64 (1099511627776), .int .i64 (1099511627777), .int .i64 (-1)] := by rw [hLL]; rfl
      rw [hcells] at hof hX5' hO5' hb5'
      refine hof.mono ?_
      rintro e w5 ⟨k, hk, rfl, hD5, hg5⟩
      have htv : nth LL k ≤ 1099511627777 := nth_le hle hk
      generalize nth LL k = tv at *
      have hX5 := hX5'.grown hg5 (by omega)
      have hO5 := hO5'.grown hg5 (by omega)
      have hbw5 : Below w.heap.size w w5 := hb5'.grown hg5 hb5'.size (fun j hj => by injection hj with hj; omega)
      have hs45 := hg5.size
      simp at hs45
      generalize R4.tail = R5 at *
      have HX5 := Lib.hid hX5
      have HO5 := Lib.hid hO5
      have HD5 := Lib.hid hD5
      have hD5l := hD5.lt
      clear hX4 hO4 hD4 hX5' hO5' hb5' hof hIL hcells hle hlen hLL hk hg5 hX5 hO5 hD5 v1 v2 v3
      go_wp2_with fail
      have hof := of_any D R5 (some ⟨w5.heap.size, 0, none⟩) [1, 2, 3, 0, -1, 1073741824, 1073741825] 7 _ (HD5.out.alloc (.cells #[.int .i64 1, .int .i64 2, .int .i64 3, .int .i64 0, .int .i64 (-1), .int .i64 1073741824, .int .i64 1073741825] 3)) (lit_ints w5 [1, 2, 3, 0, -1, 1073741824, 1073741825]) (fun b off e => by injection e with e; injection e with e1; omega) (by simp) (by simp)
      refine hof.mono ?_
      rintro e w6 ⟨k2, hk2, rfl, hD6, hg6⟩
      generalize nth [1, 2, 3, 0, -1, 1073741824, 1073741825] k2 = cv at *
      have hX6 := (HX5.out.alloc (.cells #[.int .i64 1, .int .i64 2, .int .i64 3, .int .i64 0, .int .i64 (-1), .int .i64 1073741824, .int .i64 1073741825] 3)).grown hg6 (by omega)
      have hO6 := (HO5.out.below (below_alloc w5 (.cells #[.int .i64 1, .int .i64 2, .int .i64 3, .int .i64 0, .int .i64 (-1), .int .i64 1073741824, .int .i64 1073741825] 3))).grown hg6 (by omega)
      have hbw6 : Below w.heap.size w w6 := (hbw5.trans ((below_alloc w5 (.cells #[.int .i64 1, .int .i64 2, .int .i64 3, .int .i64 0, .int .i64 (-1), .int .i64 1073741824, .int .i64 1073741825] 3)).mono hbw5.size)).grown hg6 (by have := hbw5.size; simp; omega) (fun j hj => by injection hj with hj; omega)
      generalize R5.tail = R6 at *
      have HX6 := Lib.hid hX6
      have HO6 := Lib.hid hO6
      have HD6 := Lib.hid hD6
      clear hof hk2 hg6 hX6 hO6 hD6 HX5 HO5 HD5
      have x0 := HX6.out.c0
      have x1 := HX6.out.c1
      have x2 := HX6.out.c2
      go_wp2_with fail
      obtain ⟨Cx, cx, ec, hC6, -, -⟩ := HO6.out.at_
      injection ec with ec1 ec2 ec3
      subst ec1; subst ec3
      have HSP := Lib.hid HO6.out.spot
      have HNC := Lib.hid HO6.out.nilcap
      refine ret_below (agree_true P A (some ⟨b, off, none⟩) S c tv cv w6 hC6 HSP.out HNC.out (by omega) (by omega)) fun w7 hb7 => ?_
      have hbw7 : Below w.heap.size w w7 := hbw6.trans (hb7.mono hbw6.size)
      have HX7 := Lib.hid (HX6.out.below hb7)
      have HO7 := Lib.hid (HO6.out.below hb7)
      have hD7 := HD6.out.below hb7
      clear x0 x1 x2 HX6 HO6 HD6 hC6
      go_wp2_with fail
      refine (next_any D R6 6 _ hD7 (by omega)).mono ?_
      rintro e w8 ⟨rfl, hD8, hg8⟩
      obtain ⟨m3, m4⟩ := nextV_range R6 6 (by omega)
      generalize nextV R6 6 = q at *
      generalize R6.tail = R8 at *
      have hbw8 : Below w.heap.size w w8 := hbw7.grown hg8 hbw7.size (fun j hj => by injection hj with hj; omega)
      have hX8 := HX7.out.grown hg8 (by omega)
      have hO8 := HO7.out.grown hg8 (by omega)
      have x0 := hX8.c0
      have x1 := hX8.c1
      have x2 := hX8.c2
      have f0 := hX8.frozen 0
      have f1 := hX8.frozen 1
      have f2 := hX8.frozen 2
      have hD8l := hD8.lt
      have HX8 := Lib.hid hX8
      have HO8 := Lib.hid hO8
      have HD8 := Lib.hid hD8
      obtain ⟨Cy, cy, ec, hC8, -, -⟩ := hO8.at_
      injection ec with ec1 ec2 ec3
      subst ec1; subst ec3
      have HC8 := Lib.hid hC8
      clear hX8 hO8 hD8 hg8 hD7 HX7 HO7 hC8
      by_cases q0 : q = 0
      · have b0 : (q == 0) = true := by simp [q0]
        go_wp2_with fail
        have hof := of_any D R8 (some ⟨w8.heap.size, 0, none⟩) [0, -1, 1099511627776, 1099511627777] 4 _ (HD8.out.alloc (.cells #[.int .i64 0, .int .i64 (-1), .int .i64 1099511627776, .int .i64 1099511627777] 3)) (lit_ints w8 [0, -1, 1099511627776, 1099511627777]) (fun b off e => by injection e with e; injection e with e1; omega) (by simp) (by simp)
        refine hof.mono ?_
        rintro e w9 ⟨k3, hk3, rfl, hD9, hg9⟩
        generalize nth [0, -1, 1099511627776, 1099511627777] k3 = pv at *
        have hX9 := (HX8.out.alloc (.cells #[.int .i64 0, .int .i64 (-1), .int .i64 1099511627776, .int .i64 1099511627777] 3)).grown hg9 (by omega)
        have hO9 := (HO8.out.below (below_alloc w8 (.cells #[.int .i64 0, .int .i64 (-1), .int .i64 1099511627776, .int .i64 1099511627777] 3))).grown hg9 (by omega)
        have hbw9 : Below w.heap.size w w9 := (hbw8.trans ((below_alloc w8 (.cells #[.int .i64 0, .int .i64 (-1), .int .i64 1099511627776, .int .i64 1099511627777] 3)).mono hbw8.size)).grown hg9 (by have := hbw8.size; simp; omega) (fun j hj => by injection hj with hj; omega)
        obtain ⟨Cz, cz, ec, hCz', -, -⟩ := hO9.at_
        injection ec with ec1 ec2 ec3
        subst ec1; subst ec3
        have hCz := hCz'.set_ ⟨bx, 0, none⟩ (.int .i64 pv) (fun b off e => by have := HCB.out b off e; simp; omega)
        clear hCz'
        have HXF := Lib.hid (hX9.set0 pv)
        have HCF := Lib.hid hCz
        have hbwF : Below w.heap.size w (w9.setCell ⟨bx, 0, none⟩ (.int .i64 pv)) := below_set hbw9 _ _ (by simp; omega)
        have g0 := hX9.c0
        have g1 := hX9.c1
        have g2 := hX9.c2
        have g3 := hX9.frozen 0
        clear hof hk3 hg9 hD9 hO9 hCz hX9 x0 x1 x2 f0 f1 f2 HX8 HO8 HC8
        
        go_wp2_with fail
        refine ret_below (awake_true _) fun wa hba => ?_
        have hxa := HXF.out.below hba
        have y0 := hxa.c0
        have y1 := hxa.c1
        have y2 := hxa.c2
        have HCa := Lib.hid (HCF.out.below hba)
        have hbwa := hbwF.trans (hba.mono hbwF.size)
        clear hxa
        go_wp2_with fail
        refine ret_below (agree_true pv A (some ⟨b, off, none⟩) S c tv cv _ HCa.out HSP.out HNC.out (by omega) (by omega)) fun wb hbb => ?_
        go_wp2
        go_ret
        exact RetB.bool rfl (hbwa.trans (hbb.mono hbwa.size))
      by_cases q1 : q = 1
      · have b0 : (q == 0) = false := by simp [q0]
        have b1 : (q == 1) = true := by simp [q1]
        go_wp2_with fail
        have hof := of_any D R8 (some ⟨w8.heap.size, 0, none⟩) [-1, 1073741824, 1073741825, 0] 4 _ (HD8.out.alloc (.cells #[.int .i64 (-1), .int .i64 1073741824, .int .i64 1073741825, .int .i64 0] 3)) (lit_ints w8 [-1, 1073741824, 1073741825, 0]) (fun b off e => by injection e with e; injection e with e1; omega) (by simp) (by simp)
        refine hof.mono ?_
        rintro e w9 ⟨k3, hk3, rfl, hD9, hg9⟩
        generalize nth [-1, 1073741824, 1073741825, 0] k3 = pv at *
        have hX9 := (HX8.out.alloc (.cells #[.int .i64 (-1), .int .i64 1073741824, .int .i64 1073741825, .int .i64 0] 3)).grown hg9 (by omega)
        have hO9 := (HO8.out.below (below_alloc w8 (.cells #[.int .i64 (-1), .int .i64 1073741824, .int .i64 1073741825, .int .i64 0] 3))).grown hg9 (by omega)
        have hbw9 : Below w.heap.size w w9 := (hbw8.trans ((below_alloc w8 (.cells #[.int .i64 (-1), .int .i64 1073741824, .int .i64 1073741825, .int .i64 0] 3)).mono hbw8.size)).grown hg9 (by have := hbw8.size; simp; omega) (fun j hj => by injection hj with hj; omega)
        obtain ⟨Cz, cz, ec, hCz', -, -⟩ := hO9.at_
        injection ec with ec1 ec2 ec3
        subst ec1; subst ec3
        have hCz := hCz'.set_ ⟨bx, 1, none⟩ (.int .i64 pv) (fun b off e => by have := HCB.out b off e; simp; omega)
        clear hCz'
        have HXF := Lib.hid (hX9.set1 pv)
        have HCF := Lib.hid hCz
        have hbwF : Below w.heap.size w (w9.setCell ⟨bx, 1, none⟩ (.int .i64 pv)) := below_set hbw9 _ _ (by simp; omega)
        have g0 := hX9.c0
        have g1 := hX9.c1
        have g2 := hX9.c2
        have g3 := hX9.frozen 1
        clear hof hk3 hg9 hD9 hO9 hCz hX9 x0 x1 x2 f0 f1 f2 HX8 HO8 HC8
        
        go_wp2_with fail
        refine ret_below (awake_true _) fun wa hba => ?_
        have hxa := HXF.out.below hba
        have y0 := hxa.c0
        have y1 := hxa.c1
        have y2 := hxa.c2
        have HCa := Lib.hid (HCF.out.below hba)
        have hbwa := hbwF.trans (hba.mono hbwF.size)
        clear hxa
        go_wp2_with fail
        refine ret_below (agree_true P pv (some ⟨b, off, none⟩) S c tv cv _ HCa.out HSP.out HNC.out (by omega) (by omega)) fun wb hbb => ?_
        go_wp2
        go_ret
        exact RetB.bool rfl (hbwa.trans (hbb.mono hbwa.size))
      by_cases q2 : q = 2
      · skip
        have b0 : (q == 0) = false := by simp [q0]
        have b1 : (q == 1) = false := by simp [q1]
        have b2 : (q == 2) = true := by simp [q2]
        clear q0 q1 q2
        have hSt8 : St18 w D w1.heap.size bx P A (.slice (some ⟨b, off, none⟩) S.length c) S w8 := ⟨HX8.out, HO8.out, ⟨R8, HD8.out⟩, hbw8, by have := blk_lt HX8.out; omega⟩
        have hne8 : ∀ k, (Value.slice (some ⟨b, off, none⟩) S.length c).ownBlock = some k → k ≠ bx := own_ne HO8.out HCB.out

        have hDw8 : D < w8.heap.size := by omega
        have v1 : IntKind.i64.wrap (la - 1) = la - 1 := IntWalk.i64_in _ (by omega)
        clear HX8 HO8 HC8 HD8 HLA HCB HSP HNC
        have hbxl := blk_lt hSt8.box
        go_wp2_with fail
        go_region_law (first
            | (refine step_of _ rfl (.tmp 70) (.tmp 74) rfl w D w1.heap.size bx P A (.slice (some ⟨b, off, none⟩) S.length c) S hDs hDl hDbx _ [la, la - 1, 1099511627777] (by rfl) (by rfl) (by simp) (by simp) (by repeat (first | assumption | apply St18.drew | apply St18.alloc)) (by first | exact Lit.drew (Lit.new _ _ [la, la - 1, 1099511627777] (by simp)) | exact Lit.drew ((Lit.new _ _ [la, la - 1, 1099511627777] (by simp)).alloc _)) (by simp; omega) ?_; intro k1 u1 hk1 hst1 hgr1; have ya1 := hst1.box.c2; have yb1 := hst1.box.frozen 2; have yc1 := blk_lt hst1.box)
            | (refine step_of _ rfl (.tmp 76) (.tmp 77) rfl w D w1.heap.size bx P A (.slice (some ⟨b, off, none⟩) S.length c) S hDs hDl hDbx _ [0, 1, 9, 1073741825] (by rfl) (by rfl) (by simp) (by simp) (by repeat (first | assumption | apply St18.drew | apply St18.alloc)) (by first | exact Lit.new _ _ [0, 1, 9, 1073741825] (by simp) | exact Lit.grown (Lit.drew (Lit.new _ _ [0, 1, 9, 1073741825] (by simp))) hgr1 (by simp; omega) | exact Lit.grown (Lit.drew ((Lit.new _ _ [0, 1, 9, 1073741825] (by simp)).alloc _)) hgr1 (by simp; omega)) (by have := hgr1.size; simp at this; simp; omega) ?_; intro k2 u2 hk2 hst2 hgr2; have ya2 := hst2.box.c2; have yb2 := hst2.box.frozen 2; have yc2 := blk_lt hst2.box)
            | (refine step_app3 _ rfl (.tmp 69) (.tmp 80) rfl w u2 D w1.heap.size bx P A (nth [la, la - 1, 1099511627777] k1) (nth [0, 1, 9, 1073741825] k2) (.slice (some ⟨b, off, none⟩) S.length c) S.length S (by rfl) (by rfl) ⟨rfl, rfl, rfl, rfl⟩ rfl (by omega) hst2 hb1z (Nat.le_trans hw1bx (Nat.le_of_lt (blk_lt hst2.box))) hne8 ?_; intro g cap w9 hown9 hX9 hbw9 hg9 hc9 hf9))
        all_goals
          obtain ⟨hCz, hl9', hX9, hbwF⟩ := Cut18.mk hown9 hX9 hbw9 hg9 rfl hwbx
          generalize S ++ [(nth [la, la - 1, 1099511627777] k1, nth [0, 1, 9, 1073741825] k2)] = S9 at *
          have HXF := Lib.hid hX9
          have HCF := Lib.hid hCz
          have HL9 := Lib.hid hl9'
          have hl9 : S9.length ≤ 300 := by omega
          clear hCz hl9' hSt8 hst1 hst2 hgr1 hgr2 hk1 hk2 ya1 yb1 yc1 ya2 yb2 yc2 hown9 hbw9 hg9 x0 x1 x2 f0 f1 f2
          go_wp2_with fail
          refine ret_below (awake_true _) fun wa hba => ?_
          have hxa := HXF.out.below hba
          have y0 := hxa.c0
          have y1 := hxa.c1
          have y2 := hxa.c2
          have HCa := Lib.hid (HCF.out.below hba)
          have hbwa := hbwF.trans (hba.mono hbwF.size)
          clear hxa
          go_wp2_with fail
          have hag := agree_true P A (some ⟨g, 0, none⟩) S9 cap tv cv wa HCa.out (fun a ha => by injection ha with ha; exact .inl (ha ▸ rfl)) (fun h => by cases h) (by omega) (by omega)
          rw [HL9.out] at hag
          refine ret_below hag fun wb hbb => ?_
          go_wp2
          go_ret
          exact RetB.bool rfl (hbwa.trans (hbb.mono hbwa.size))
      by_cases q3 : q = 3
      · skip
        have b0 : (q == 0) = false := by simp [q0]
        have b1 : (q == 1) = false := by simp [q1]
        have b2 : (q == 2) = false := by simp [q2]
        have b3 : (q == 3) = true := by simp [q3]
        clear q0 q1 q2
        go_wp2_with fail
        obtain ⟨w9, hw9⟩ : ∃ w9, w9 = (((w8.setCell ⟨bx, 0, none⟩ (.int .i64 1)).setCell ⟨bx, 1, none⟩ (.int .i64 1)).setCell ⟨bx, 2, none⟩ (.slice none 0 0)) := ⟨_, rfl⟩
        rw [← hw9]
        have hX9 : BudCell w9 bx 1 1 (.slice none 0 0) := by rw [hw9]; exact ((HX8.out.set0 1).set1 1).set2 _
        have hD9 : DiceAt w9 D R8 := by rw [hw9]; exact ((HD8.out.setCell _ _ (by simp; omega)).setCell _ _ (by simp; omega)).setCell _ _ (by simp; omega)
        have hbw9 : Below w.heap.size w w9 := by rw [hw9]; exact below_set (below_set (below_set hbw8 _ _ (by simp; omega)) _ _ (by simp; omega)) _ _ (by simp; omega)
        have HX9 := Lib.hid hX9
        have HD9 := Lib.hid hD9
        clear hw9 hX9 hD9 x0 x1 x2 f0 f1 f2 HX8 HO8 HC8 HD8
        go_loopw [11] (fun i wr => ∃ (k : Nat) (S' : List Spd) (v' : Value) (R' : List Int), k ≤ 257 ∧ i = .int .i64 k ∧ S'.length = k ∧ BudCell wr bx 1 1 v' ∧ SpOwn wr (bx + 1) v' S' ∧ DiceAt wr D R' ∧ Below w.heap.size w wr) (fun i _ => 258 - (intOf i).toNat)
        case atStart => exact ⟨0, [], _, R8, by omega, rfl, rfl, HX9.out, SpOwn.nil _ _, HD9.out, hbw9⟩
        case round =>
          clear HX9 HD9
          obtain ⟨k, S', v', R', hk, rfl, hSl, hX, hO, hDr, hbr⟩ := hrel
          obtain ⟨C', c', rfl, -, -, -⟩ := hO.at_
          have HX := Lib.hid hX
          have HO := Lib.hid hO
          have HSl := Lib.hid hSl
          have hxl := blk_lt hX
          clear hX hO hSl
          go_wp2_with fail
          refine (next_any D R' 2 _ hDr (by omega)).mono ?_
          rintro e w10 ⟨rfl, hD10, hg10⟩
          obtain ⟨m5, m6⟩ := nextV_range R' 2 (by omega)
          generalize nextV R' 2 = x5 at *
          generalize R'.tail = R10 at *
          have hX10 := HX.out.grown hg10 (by omega)
          have HO10 := Lib.hid (HO.out.grown hg10 (by omega))
          have hbw10 : Below w.heap.size w w10 := hbr.grown hg10 hbr.size (fun j hj => by injection hj with hj; omega)
          have y2 := hX10.c2
          have y0 := hX10.c0
          have y1 := hX10.c1
          have y3 := hX10.frozen 2
          have hxl10 := blk_lt hX10
          have HX10 := Lib.hid hX10
          have HD10 := Lib.hid hD10
          clear HX HO hX10 hg10 hDr hD10
          by_cases hlt : (k : Int) < 256 + x5
          · go_wp2_with (first | (at_builtin; refine app_spends rfl (.tmp 94) (.tmp 97) rfl (base := bx + 1) (S := S') (T := [((k : Int), 1)]) (v := .slice C' S'.length c') (b := w10.heap.size) (off := 0) (c := 1) rfl (HO10.out.below (below_alloc _ _)) rfl (one_at _ _ _) (by have := HSl.out; simp; omega) (by simp; omega) ?_; intro v8 w11 hown8 hg8 hb8; obtain ⟨C8, c8, ev, -, -, -⟩ := hown8.at_; rw [show (S' ++ [((k : Int), (1 : Int))]).length = S'.length + 1 by simp] at ev; subst ev; have hA8 := made_app HX10.out HD10.out hbw10 HO10.out hDbx hwbx hg8 hown8; have z2 := hA8.1.c2; have z3 := hA8.1.frozen 2; have HA8 := Lib.hid hA8.2; clear hA8 hown8 hg8 hb8) | fail)
            go_roundw
            case rel => exact ⟨k + 1, S' ++ [((k : Int), 1)], _, R10, by omega, by go_num, by simp [HSl.out], HA8.out⟩
            case measure => simp [intOf]; omega
          · obtain ⟨Cz, cz, ec, hCz, -, -⟩ := HO10.out.at_
            injection ec with ec1 ec2 ec3
            subst ec1; subst ec3
            have HXF := Lib.hid HX10.out
            have HCF := Lib.hid hCz
            have hbwF := hbw10
            have HSP := Lib.hid HO10.out.spot
            have HNC := Lib.hid HO10.out.nilcap
            have hsl := HSl.out
            have hsl2 : S'.length ≤ 300 := by omega
            clear hsl HO10 HX10 HD10 hCz
            go_wp2_with fail
            refine ret_below (awake_true _) fun wa hba => ?_
            have hxa := HXF.out.below hba
            have y0 := hxa.c0
            have y1 := hxa.c1
            have y2 := hxa.c2
            have HCa := Lib.hid (HCF.out.below hba)
            have hbwa := hbwF.trans (hba.mono hbwF.size)
            clear hxa
            go_wp2_with fail
            refine ret_below (agree_true 1 1 C' S' c' 400 1 _ HCa.out HSP.out HNC.out (by omega) (by omega)) fun wb hbb => ?_
            go_wp2
            go_ret
            exact RetB.bool rfl (hbwa.trans (hbb.mono hbwa.size))
      have b0 : (q == 0) = false := by simp [q0]
      have b1 : (q == 1) = false := by simp [q1]
      have b2 : (q == 2) = false := by simp [q2]
      have b3 : (q == 3) = false := by simp [q3]
      clear q0 q1 q2 q3
      have HXF := Lib.hid HX8.out
      have HCF := Lib.hid HC8.out
      have hbwF := hbw8
      
      go_wp2_with fail
      refine ret_below (awake_true _) fun wa hba => ?_
      have hxa := HXF.out.below hba
      have y0 := hxa.c0
      have y1 := hxa.c1
      have y2 := hxa.c2
      have HCa := Lib.hid (HCF.out.below hba)
      have hbwa := hbwF.trans (hba.mono hbwF.size)
      clear hxa
      go_wp2_with fail
      refine ret_below (agree_true P A (some ⟨b, off, none⟩) S c tv cv _ HCa.out HSP.out HNC.out (by omega) (by omega)) fun wb hbb => ?_
      go_wp2
      go_ret
      exact RetB.bool rfl (hbwa.trans (hbb.mono hbwa.size))
  · have hL' := hL
    rw [decide_eq_false hlight] at hL
    have HLt := Lib.hid hL
    clear hL hL'
    go_enter Try.func4, Try.ntmps4
    go_wp2_with fail
    refine ret_pure HLt.out ?_
    go_wp2_with fail
    refine ret_below (awake_true _) fun w1 hb => ?_
    go_wp2
    go_ret
    exact RetB.bool rfl hb
end Go.Proofs.Ytmnkgfimdlhhiaa
