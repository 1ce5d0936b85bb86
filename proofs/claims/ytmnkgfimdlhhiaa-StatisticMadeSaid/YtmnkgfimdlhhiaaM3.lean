/-
  Published numbers: by how many steps tables can differ; comparing tables.
  Budgets: Spend, the program's and the document's.
  Published numbers: publishing a table.
  Conditions: those that each theorem names.
-/
import Derived.Test.YtmnkgfimdlhhiaaM2
import Derived.RegionTactic
import Derived.BigRegion
set_option linter.unusedVariables false
set_option linter.unusedSimpArgs false
namespace Go.Proofs.Ytmnkgfimdlhhiaa
open Go.RowKit

def fc1 (T : Int) (La Lb : List Spd) (d : Int) : Int := max (clC T La d - clC T Lb d) (clC T Lb d - clC T La d)
def fcK (T : Int) (La Lb : List Spd) (ds : List Int) : Nat → Int
  | 0 => 0
  | k + 1 => fcK T La Lb ds k + fc1 T La Lb (nth ds k)
theorem fcK_succ (T : Int) (La Lb : List Spd) (ds : List Int) (k : Nat) {x y : Int} (hx : x = clC T La (nth ds k)) (hy : y = clC T Lb (nth ds k)) : fcK T La Lb ds (k + 1) = fcK T La Lb ds k + max (x - y) (y - x) := by subst hx; subst hy; rfl
theorem fcK_range {T : Int} (h : 0 ≤ T ∧ T ≤ 24) (La Lb : List Spd) (ds : List Int) : ∀ k : Nat, 0 ≤ fcK T La Lb ds k ∧ fcK T La Lb ds k ≤ 24 * k
  | 0 => by simp [fcK]
  | k + 1 => by
    have h1 := fcK_range h La Lb ds k
    have h2 := clC_range La (nth ds k) h.1
    have h3 := clC_range Lb (nth ds k) h.1
    rw [fcK_succ T La Lb ds k rfl rfl]; push_cast; omega
def fcE (T A B : Int) (ds : List Int) : Int := if Good T A B then (if RowsOK ds then 0 else 2) else 57
def fcV (T A B : Int) (La Lb : List Spd) (ds : List Int) : Int := if Good T A B ∧ RowsOK ds then fcK T La Lb ds ds.length else 0
def FacP (T A B : Int) (La Lb : List Spd) (ds : List Int) (w : World) (e : Ending) (w' : World) : Prop :=
  e = .returned (.tuple #[.int .i64 (fcV T A B La Lb ds), .int .i64 (fcE T A B ds)]) ∧ Below w.heap.size w w'
theorem FacP.bad {T A B : Int} {La Lb : List Spd} {ds : List Int} {w w' : World} (h : ¬ Good T A B) (hb : Below w.heap.size w w') : FacP T A B La Lb ds w (.returned (.tuple #[.int .i64 0, .int .i64 57])) w' := by
  refine ⟨?_, hb⟩
  unfold fcV fcE; rw [if_neg h, if_neg (fun H => h H.1)]
theorem FacP.out {T A B : Int} {La Lb : List Spd} {ds : List Int} {w w' : World} (h : Good T A B) (h2 : ¬ RowsOK ds) (hb : Below w.heap.size w w') : FacP T A B La Lb ds w (.returned (.tuple #[.int .i64 0, .int .i64 2])) w' := by
  refine ⟨?_, hb⟩
  unfold fcV fcE; rw [if_pos h, if_neg h2, if_neg (fun H => h2 H.2)]
theorem FacP.good {T A B : Int} {La Lb : List Spd} {ds : List Int} {w w' : World} {k : Nat} (h : Good T A B) (h2 : RowsOK ds) (hk : k = ds.length) (hb : Below w.heap.size w w') : FacP T A B La Lb ds w (.returned (.tuple #[.int .i64 (fcK T La Lb ds k), .int .i64 0])) w' := by
  refine ⟨?_, hb⟩
  unfold fcV fcE; rw [if_pos h, if_pos h2, if_pos ⟨h, h2⟩, hk]

set_option maxRecDepth 100000 in
set_option maxHeartbeats 4000000 in
theorem factor_any (T A B : Int) (C C' : Option Addr) (La Lb : List Spd) (c c' : Nat) (X : Option Addr) (ds : List Int) (cx : Nat) (w : World) (hA : ElAt elC w C La) (hB : ElAt elC w C' Lb) (la : La.length ≤ 100000) (lb : Lb.length ≤ 100000) (hX : IntsAt w X ds) (lx : ds.length ≤ 1000000) :
    Calls Try.prog 37 #[nz T A B, .slice C La.length c, .slice C' Lb.length c', .slice X ds.length cx] w (FacP T A B La Lb ds w) := by
  have HA := Lib.hid hA
  have HB := Lib.hid hB
  have HX := Lib.hid hX
  clear hA hB hX
  by_cases hG : Good T A B
  case neg =>
    have HG := Lib.hid hG
    have HCK := Lib.hid (checkN_bad hG)
    clear hG
    go_enter Try.func37, Try.ntmps37
    go_wp2_with fail
    refine (ncheck_any T A B _).mono ?_
    rintro e w1 ⟨rfl, hb⟩
    rw [HCK.out]
    go_wp2_with fail
    go_ret2
    exact FacP.bad HG.out ((below_alloc _ _).trans (hb.mono (by simp)))
  case pos =>
  have HG := Lib.hid hG
  have HCK := Lib.hid (checkN_ok hG)
  obtain ⟨g1, g2, g3, g4, g5⟩ := hG
  by_cases hR : RowsOK ds
  case neg =>
    have HR := Lib.hid hR
    have HRW := Lib.hid (show rowsB ds = false from decide_eq_false hR)
    clear hR
    go_enter Try.func37, Try.ntmps37
    go_wp2_with fail
    refine (ncheck_any T A B _).mono ?_
    rintro e w1 ⟨rfl, hb⟩
    rw [HCK.out]
    have hbw : Below w.heap.size w w1 := (below_alloc _ _).trans (hb.mono (by simp))
    go_wp2_with fail
    refine ret_pure (rows_any X ds cx _ (HX.out.below hbw) (by omega)) ?_
    rw [HRW.out]
    go_wp2_with fail
    go_ret2
    exact FacP.out HG.out HR.out hbw
  case pos =>
    have HR := Lib.hid hR
    have HRW := Lib.hid (show rowsB ds = true from decide_eq_true hR)
    clear hR
    go_enter Try.func37, Try.ntmps37
    go_wp2_with fail
    refine (ncheck_any T A B _).mono ?_
    rintro e w1 ⟨rfl, hb⟩
    rw [HCK.out]
    have hN : NzCell w1 w.heap.size T A B := (NzCell.new _ _ _ rfl).below hb
    replace hb : Below w.heap.size w w1 := (below_alloc _ _).trans (hb.mono (by simp))
    go_wp2_with fail
    refine ret_pure (rows_any X ds cx _ (HX.out.below hb) (by omega)) ?_
    rw [HRW.out]
    have hbw : Below w.heap.size w w1 := hb
    have HN := Lib.hid (hN)
    have HA1 := Lib.hid (HA.out.below hbw)
    have HB1 := Lib.hid (HB.out.below hbw)
    have HX1 := Lib.hid (HX.out.below hbw)
    clear hN HA HB HX hb 
    go_wp2_with fail
    go_loopw [25, 10] (fun i o wr => ∃ k : Nat, k ≤ ds.length ∧ i = .int .i64 k ∧ o = .int .i64 (fcK T La Lb ds k) ∧ Below w1.heap.size w1 wr) (fun i _ _ => ds.length - (intOf i).toNat)
    case atStart => exact ⟨0, Nat.zero_le _, rfl, rfl, Below.refl _ _⟩
    case round =>
      obtain ⟨k, hk, rfl, rfl, hbr⟩ := hrel
      have hbs := hbr.size
      have hN := HN.out.below hbr
      have n0 := hN.c0
      have n1 := hN.c1
      have n2 := hN.c2
      have lN := hN.lt
      obtain ⟨r1, r2⟩ := fcK_range (T := T) (by omega) La Lb ds k
      clear hN
      by_cases hlt : k < ds.length
      · obtain ⟨b, off, rfl, hbl, hcell⟩ := (HX1.out.below hbr) k hlt
        obtain ⟨x1, x2⟩ := clC_range (T := T) La (nth ds k) (by omega)
        obtain ⟨y1, y2⟩ := clC_range (T := T) Lb (nth ds k) (by omega)
        have HRA := Lib.hid (fun W => clamped_any T A B C La c (nth ds k) W)
        have HFS := Lib.hid (fun x y hx hy => fcK_succ T La Lb ds k (x := x) (y := y) hx hy)
        have hk0 : (0 : Int) ≤ (k : Int) := by omega
        have hkl : (k : Int) < (ds.length : Int) := by omega
        generalize hdd : nth ds k = dd at *
        generalize hfk : fcK T La Lb ds k = fk at *
        have HDD := Lib.hid hdd
        have HFK := Lib.hid hfk
        clear hdd hfk HRA
        go_wp2_with fail
        refine wp_region_grew (by kernel_rfl) (by kernel_rfl) ?_
        repeat (go_big_quiet_step ((first
          | (go_at_call 61; exact grew_of (clamped_any _ _ _ _ _ _ _ _ (by first | exact (HA1.out.below hbr).below (grewW.below _ _) | exact (HB1.out.below hbr).below (grewW.below _ _)) (by first | exact la | exact lb))))))
        refine wpQuiet_nil ?_
        intro w5 hb5
        generalize hxx : clC T La dd = xx at *
        generalize hyy : clC T Lb dd = yy at *
        have HXX := Lib.hid (And.intro hxx hyy)
        clear hxx hyy n0 n1 n2 hcell
        go_wp2_with fail
        all_goals
          go_roundw
          case rel =>
            refine ⟨k + 1, by omega, by go_num, ?_, hbr.trans (hb5.mono hbs)⟩
            rw [HFS.out xx yy rfl rfl]
            congr 1; omega
          case measure => simp [intOf]; omega
      · have HK := Lib.hid (show k = ds.length by omega)
        go_wp2_with fail
        go_ret2
        exact FacP.good HG.out HR.out HK.out (hbw.trans (hbr.mono hbw.size))

theorem rclamp_cl (T A B : Int) (L : List Spd) (d : Int) (w : World) (h : 0 ≤ T) : Calls Try.prog 68 #[nz T A B, .int .i64 (cntD d L)] w (RetB (.int .i64 (clC T L d)) w) := by
  have := rclamp_any T A B (cntD d L) w
  rw [← rclamp_eq h] at this; exact this
set_option maxRecDepth 100000 in
set_option maxHeartbeats 4000000 in
theorem refFactor_any (T A B : Int) (C C' : Option Addr) (La Lb : List Spd) (c c' : Nat) (X : Option Addr) (ds : List Int) (cx : Nat) (w : World) (hA : ElAt elC w C La) (hB : ElAt elC w C' Lb) (la : La.length ≤ 100000) (lb : Lb.length ≤ 100000) (hX : IntsAt w X ds) (lx : ds.length ≤ 1000000) :
    Calls Try.prog 38 #[nz T A B, .slice C La.length c, .slice C' Lb.length c', .slice X ds.length cx] w (FacP T A B La Lb ds w) := by
  have HA := Lib.hid hA
  have HB := Lib.hid hB
  have HX := Lib.hid hX
  clear hA hB hX
  by_cases hG : Good T A B
  case neg =>
    have HG := Lib.hid hG
    have HCK := Lib.hid (checkN_bad hG)
    clear hG
    go_enter Try.func38, Try.ntmps38
    go_wp2_with fail
    refine (rcheck_any T A B _).mono ?_
    rintro e w1 ⟨rfl, hb⟩
    rw [HCK.out]
    go_wp2_with fail
    go_ret2
    exact FacP.bad HG.out ((below_alloc _ _).trans (hb.mono (by simp)))
  case pos =>
  have HG := Lib.hid hG
  have HCK := Lib.hid (checkN_ok hG)
  obtain ⟨g1, g2, g3, g4, g5⟩ := hG
  by_cases hR : RowsOK ds
  case neg =>
    have HR := Lib.hid hR
    have HRW := Lib.hid (show rowsB ds = false from decide_eq_false hR)
    clear hR
    go_enter Try.func38, Try.ntmps38
    go_wp2_with fail
    refine (rcheck_any T A B _).mono ?_
    rintro e w1 ⟨rfl, hb⟩
    rw [HCK.out]
    have hbw : Below w.heap.size w w1 := (below_alloc _ _).trans (hb.mono (by simp))
    go_wp2_with fail
    refine ret_below (refRows_any X ds cx _ (HX.out.below hbw) (by omega)) fun w2 hb2 => ?_
    rw [HRW.out]
    go_wp2_with fail
    go_ret2
    exact FacP.out HG.out HR.out (hbw.trans (hb2.mono hbw.size))
  case pos =>
    have HR := Lib.hid hR
    have HRW := Lib.hid (show rowsB ds = true from decide_eq_true hR)
    clear hR
    go_enter Try.func38, Try.ntmps38
    go_wp2_with fail
    refine (rcheck_any T A B _).mono ?_
    rintro e w1 ⟨rfl, hb⟩
    rw [HCK.out]
    have hN : NzCell w1 w.heap.size T A B := (NzCell.new _ _ _ rfl).below hb
    replace hb : Below w.heap.size w w1 := (below_alloc _ _).trans (hb.mono (by simp))
    go_wp2_with fail
    refine ret_below (refRows_any X ds cx _ (HX.out.below hb) (by omega)) fun w2 hb2 => ?_
    rw [HRW.out]
    have hbw : Below w.heap.size w w2 := hb.trans (hb2.mono hb.size)
    have HN := Lib.hid (hN.below hb2)
    have HA1 := Lib.hid (HA.out.below hbw)
    have HB1 := Lib.hid (HB.out.below hbw)
    have HX1 := Lib.hid (HX.out.below hbw)
    clear hN HA HB HX hb hb2
    go_wp2_with fail
    go_loopw [11, 10] (fun i o wr => ∃ k : Nat, k ≤ ds.length ∧ i = .int .i64 k ∧ o = .int .i64 (fcK T La Lb ds k) ∧ Below w2.heap.size w2 wr) (fun i _ _ => ds.length - (intOf i).toNat)
    case atStart => exact ⟨0, Nat.zero_le _, rfl, rfl, Below.refl _ _⟩
    case round =>
      obtain ⟨k, hk, rfl, rfl, hbr⟩ := hrel
      have hbs := hbr.size
      have hN := HN.out.below hbr
      have n0 := hN.c0
      have n1 := hN.c1
      have n2 := hN.c2
      have lN := hN.lt
      obtain ⟨r1, r2⟩ := fcK_range (T := T) (by omega) La Lb ds k
      clear hN
      by_cases hlt : k < ds.length
      · obtain ⟨b, off, rfl, hbl, hcell⟩ := (HX1.out.below hbr) k hlt
        obtain ⟨x1, x2⟩ := clC_range (T := T) La (nth ds k) (by omega)
        obtain ⟨y1, y2⟩ := clC_range (T := T) Lb (nth ds k) (by omega)
        have HRA := Lib.hid (fun W => clamped_any T A B C La c (nth ds k) W)
        have HFS := Lib.hid (fun x y hx hy => fcK_succ T La Lb ds k (x := x) (y := y) hx hy)
        have hk0 : (0 : Int) ≤ (k : Int) := by omega
        have hkl : (k : Int) < (ds.length : Int) := by omega
        generalize hdd : nth ds k = dd at *
        generalize hfk : fcK T La Lb ds k = fk at *
        have HDD := Lib.hid hdd
        have HFK := Lib.hid hfk
        clear hdd hfk HRA
        go_wp2_with fail
        refine wp_region_grew (by kernel_rfl) (by kernel_rfl) ?_
        repeat (go_big_quiet_step ((first
          | (go_at_call 34; exact grew_of (refCount_any _ _ _ _ _ (by first | exact (HA1.out.below hbr).below (grewW.below _ _) | exact (HB1.out.below hbr).below (grewW.below _ _)) (by first | exact la | exact lb)))
          | (go_at_call 68; exact grew_of (rclamp_cl T A B _ dd _ (by omega))))))
        refine wpQuiet_nil ?_
        intro w5 hb5
        generalize hxx : clC T La dd = xx at *
        generalize hyy : clC T Lb dd = yy at *
        have HXX := Lib.hid (And.intro hxx hyy)
        clear hxx hyy n0 n1 n2 hcell
        go_wp2_with fail
        all_goals
          go_roundw
          case rel =>
            refine ⟨k + 1, by omega, by go_num, ?_, hbr.trans (hb5.mono hbs)⟩
            rw [HFS.out xx yy rfl rfl]
            congr 1; omega
          case measure => simp [intOf]; omega
      · have HK := Lib.hid (show k = ds.length by omega)
        go_wp2_with fail
        go_ret2
        exact FacP.good HG.out HR.out HK.out (hbw.trans (hbr.mono hbw.size))

/-! ### Comparing -/
def eqLs (L M : List Spd) : Bool := decide (L = M)
theorem eqLs_len {L M : List Spd} (h : L.length ≠ M.length) : false = eqLs L M := (decide_eq_false (fun e => h (by rw [e]))).symm
theorem eqLs_at {L M : List Spd} (k : Nat) (h : ¬ (tS L k = tS M k ∧ cS L k = cS M k)) : false = eqLs L M := (decide_eq_false (fun e => h (by rw [e]; exact ⟨rfl, rfl⟩))).symm
theorem eqLs_all {L M : List Spd} (hl : L.length = M.length) (h : L.take L.length = M.take L.length) : true = eqLs L M := by
  refine (decide_eq_true ?_).symm
  rw [List.take_length, hl, List.take_length] at h; exact h
theorem take_snocS (L : List Spd) (k : Nat) (h : k < L.length) : L.take (k + 1) = L.take k ++ [(tS L k, cS L k)] := by
  rw [List.take_succ_eq_append_getElem h]; congr 1; simp [tS, cS, List.getD_eq_getElem?_getD, h]
structure CmpF (a b : Int) (q : Bool) : Prop where
  a1 : (a == b) = q
  a2 : (a != b) = !q
  a3 : (b == a) = q
  a4 : (b != a) = !q
theorem CmpF.yes {a b : Int} (h : a = b) : CmpF a b true := by subst h; exact ⟨by simp, by simp, by simp, by simp⟩
theorem CmpF.no {a b : Int} (h : ¬ a = b) : CmpF a b false := by
  have h2 : ¬ b = a := fun e => h e.symm
  exact ⟨by simp [h], by simp [h], by simp [h2], by simp [h2]⟩
set_option maxRecDepth 100000 in
set_option maxHeartbeats 2000000 in
theorem eqLine_any (A1 A2 : Option Addr) (L M : List Spd) (c1 c2 : Nat) (w : World) (h1 : ElAt elL w A1 L) (h2 : ElAt elL w A2 M) (hl : L.length ≤ 1000000) (_ : M.length ≤ 1000000) :
    Calls Try.prog 80 #[.slice A1 L.length c1, .slice A2 M.length c2] w (RetB (.bool (eqLs L M)) w) := by
  have H1 := Lib.hid h1
  have H2 := Lib.hid h2
  clear h1 h2
  by_cases hlen : L.length = M.length
  · have HL := Lib.hid hlen
    have hlM : M.length ≤ L.length := by omega
    have hlM' : L.length ≤ M.length := by omega
    have heq : ((L.length : Int) != (M.length : Int)) = false := by simp [hlen]
    clear hlen
    go_enter Try.func80, Try.ntmps80
    go_wp2_with fail
    go_loopw [13] (fun i wr => ∃ k : Nat, k ≤ L.length ∧ i = .int .i64 k ∧ L.take k = M.take k ∧ Below w.heap.size w wr) (fun i _ => L.length - (intOf i).toNat)
    case atStart => exact ⟨0, Nat.zero_le _, rfl, rfl, Below.refl _ _⟩
    case round =>
      obtain ⟨k, hk, rfl, hpre, hbr⟩ := hrel
      have HP := Lib.hid hpre
      clear hpre
      by_cases hlt : k < L.length
      · obtain ⟨b, off, rfl, hbl, q1, q2⟩ := lin_cells (H1.out.below hbr) hlt
        obtain ⟨b', off', rfl, hbl', r1, r2⟩ := lin_cells (H2.out.below hbr) (k := k) (by omega)
        have HT1 := Lib.hid (take_snocS L k hlt)
        have HT2 := Lib.hid (take_snocS M k (by omega))
        have HA := Lib.hid (fun h => eqLs_at (L := L) (M := M) k h)
        have hk0 : (0 : Int) ≤ (k : Int) := by omega
        have hkl : (k : Int) < (L.length : Int) := by omega
        have hkm : (k : Int) < (M.length : Int) := by omega
        generalize tS L k = t1 at *
        generalize cS L k = d1 at *
        generalize tS M k = t2 at *
        generalize cS M k = d2 at *
        by_cases e1 : t1 = t2
        · obtain ⟨f1, f2, f3, f4⟩ := CmpF.yes e1
          have E1 := Lib.hid e1
          clear e1
          by_cases e2 : d1 = d2
          · obtain ⟨g1, g2, g3, g4⟩ := CmpF.yes e2
            have E2 := Lib.hid e2
            clear e2
            go_wp2_with fail
            go_quiet (fail)
            go_wp2_with fail
            go_roundw
            case rel => exact ⟨k + 1, by omega, by go_num, by rw [HT1.out, HT2.out, HP.out, E1.out, E2.out], below_drewN hbr _⟩
            case measure => simp [intOf]; omega
          · obtain ⟨g1, g2, g3, g4⟩ := CmpF.no e2
            have HV := Lib.hid (HA.out (fun h => e2 h.2))
            clear e2
            go_wp2_with fail
            go_quiet (fail)
            go_wp2_with fail
            go_ret
            exact RetB.bool HV.out (below_drewN hbr _)
        · obtain ⟨f1, f2, f3, f4⟩ := CmpF.no e1
          have HV := Lib.hid (HA.out (fun h => e1 h.1))
          clear e1
          go_wp2_with fail
          go_quiet (fail)
          go_wp2_with fail
          go_ret
          exact RetB.bool HV.out (below_drewN hbr _)
      · have HV := Lib.hid (show true = eqLs L M from eqLs_all HL.out (by have := HP.out; rw [show k = L.length by omega] at this; exact this))
        go_wp2_with fail
        go_ret
        exact RetB.bool HV.out hbr
  · have HV := Lib.hid (eqLs_len hlen)
    have heq : ((L.length : Int) != (M.length : Int)) = true := by simp; omega
    clear hlen
    go_enter Try.func80, Try.ntmps80
    go_wp2_with fail
    go_ret
    exact RetB.bool HV.out (Below.refl _ _)
def eqT (t1 t2 : Int) (L M : List Spd) : Bool := t1 == t2 && eqLs L M
theorem eqT_no {t1 t2 : Int} {L M : List Spd} (h : ¬ t1 = t2) : false = eqT t1 t2 L M := by simp [eqT, h]
theorem eqT_yes {t1 t2 : Int} {L M : List Spd} (h : t1 = t2) : eqLs L M = eqT t1 t2 L M := by simp [eqT, h]
theorem sameTable_any (A1 A2 : Option Addr) (L M : List Spd) (c1 c2 : Nat) (t1 t2 : Int) (w : World) (h1 : ElAt elL w A1 L) (h2 : ElAt elL w A2 M) (hl : L.length ≤ 1000000) (hm : M.length ≤ 1000000) :
    Calls Try.prog 70 #[.agg #[.int .i64 t1, .slice A1 L.length c1], .agg #[.int .i64 t2, .slice A2 M.length c2]] w (RetB (.bool (eqT t1 t2 L M)) w) := by
  have H1 := Lib.hid h1
  have H2 := Lib.hid h2
  clear h1 h2
  by_cases e1 : t1 = t2
  · obtain ⟨f1, f2, f3, f4⟩ := CmpF.yes e1
    have HV := Lib.hid (eqT_yes (L := L) (M := M) e1)
    clear e1
    go_enter Try.func70, Try.ntmps70
    go_wp2_with fail
    refine ret_below (eqLine_any A1 A2 L M c1 c2 _ ((H1.out.alloc _).alloc _) ((H2.out.alloc _).alloc _) hl hm) fun w1 hb => ?_
    go_wp2_with fail
    go_ret
    exact RetB.bool HV.out (((below_alloc _ _).alloc (by simp) _).trans (hb.mono (by simp; omega)))
  · obtain ⟨f1, f2, f3, f4⟩ := CmpF.no e1
    have HV := Lib.hid (eqT_no (L := L) (M := M) e1)
    clear e1
    go_enter Try.func70, Try.ntmps70
    go_wp2_with fail
    go_ret
    exact RetB.bool HV.out ((below_alloc _ _).alloc (by simp) _)
theorem sameT_any (A1 A2 : Option Addr) (L M : List Spd) (c1 c2 : Nat) (t1 t2 : Int) (w : World) (h1 : ElAt elL w A1 L) (h2 : ElAt elL w A2 M) (hl : L.length ≤ 1000000) (hm : M.length ≤ 1000000) :
    Calls Try.prog 40 #[.agg #[.int .i64 t1, .slice A1 L.length c1], .agg #[.int .i64 t2, .slice A2 M.length c2]] w (RetB (.bool (eqT t1 t2 L M)) w) := by
  have H1 := Lib.hid h1
  have H2 := Lib.hid h2
  clear h1 h2
  go_enter Try.func40, Try.ntmps40
  go_wp2_with fail
  refine ret_below (sameTable_any A1 A2 L M c1 c2 t1 t2 _ ((H1.out.alloc _).alloc _) ((H2.out.alloc _).alloc _) hl hm) fun w1 hb => ?_
  go_wp2_with fail
  go_ret
  exact RetB.bool rfl (((below_alloc _ _).alloc (by simp) _).trans (hb.mono (by simp; omega)))
set_option maxRecDepth 100000 in
set_option maxHeartbeats 2000000 in
theorem refSameT_any (A1 A2 : Option Addr) (L M : List Spd) (c1 c2 : Nat) (t1 t2 : Int) (w : World) (h1 : ElAt elL w A1 L) (h2 : ElAt elL w A2 M) (hl : L.length ≤ 1000000) (_ : M.length ≤ 1000000) :
    Calls Try.prog 32 #[.agg #[.int .i64 t1, .slice A1 L.length c1], .agg #[.int .i64 t2, .slice A2 M.length c2]] w (RetB (.bool (eqT t1 t2 L M)) w) := by
  have H1 := Lib.hid h1
  have H2 := Lib.hid h2
  clear h1 h2
  by_cases e1 : t1 = t2
  case neg =>
    obtain ⟨f1, f2, f3, f4⟩ := CmpF.no e1
    have HV := Lib.hid (eqT_no (L := L) (M := M) e1)
    clear e1
    go_enter Try.func32, Try.ntmps32
    go_wp2_with fail
    go_ret
    exact RetB.bool HV.out ((below_alloc _ _).alloc (by simp) _)
  case pos =>
  obtain ⟨f1, f2, f3, f4⟩ := CmpF.yes e1
  have HEV := Lib.hid (eqT_yes (L := L) (M := M) e1)
  clear e1
  by_cases hlen : L.length = M.length
  case neg =>
    have HV := Lib.hid ((eqLs_len hlen).trans HEV.out)
    have heq : ((L.length : Int) != (M.length : Int)) = true := by simp; omega
    clear hlen
    go_enter Try.func32, Try.ntmps32
    go_wp2_with fail
    go_ret
    exact RetB.bool HV.out ((below_alloc _ _).alloc (by simp) _)
  case pos =>
    have HL := Lib.hid hlen
    have hlM : M.length ≤ L.length := by omega
    have hlM' : L.length ≤ M.length := by omega
    have heq : ((L.length : Int) != (M.length : Int)) = false := by simp [hlen]
    clear hlen
    go_enter Try.func32, Try.ntmps32
    go_wp2_with fail
    refine gen_world fun w1 hw1 => ?_
    have hb : Below w.heap.size w w1 := by rw [hw1]; exact (below_alloc _ _).alloc (by simp) _
    have hX : TabCell w1 w.heap.size t1 (.slice A1 L.length c1) := by rw [hw1]; exact (TabCell.new _ _ rfl).below (below_alloc _ _)
    have hY : TabCell w1 (w.heap.size + 1) t2 (.slice A2 M.length c2) := by rw [hw1]; exact TabCell.new _ _ (by simp)
    have HX := Lib.hid hX
    have HY := Lib.hid hY
    have G1 := Lib.hid (H1.out.below hb)
    have G2 := Lib.hid (H2.out.below hb)
    clear hw1 hX hY H1 H2
    go_loopw [5] (fun i wr => ∃ k : Nat, k ≤ L.length ∧ i = .int .i64 k ∧ L.take k = M.take k ∧ Below w1.heap.size w1 wr) (fun i _ => L.length - (intOf i).toNat)
    case atStart => exact ⟨0, Nat.zero_le _, rfl, rfl, Below.refl _ _⟩
    case round =>
      obtain ⟨k, hk, rfl, hpre, hbr⟩ := hrel
      have HP := Lib.hid hpre
      have x1 := (HX.out.below hbr).c1
      have y1 := (HY.out.below hbr).c1
      clear hpre
      by_cases hlt : k < L.length
      · obtain ⟨b, off, rfl, hbl, q1, q2⟩ := lin_cells (G1.out.below hbr) hlt
        obtain ⟨b', off', rfl, hbl', r1, r2⟩ := lin_cells (G2.out.below hbr) (k := k) (by omega)
        have HT1 := Lib.hid (take_snocS L k hlt)
        have HT2 := Lib.hid (take_snocS M k (by omega))
        have HA := Lib.hid (fun h => (eqLs_at (L := L) (M := M) k h).trans HEV.out)
        have hk0 : (0 : Int) ≤ (k : Int) := by omega
        have hkl : (k : Int) < (L.length : Int) := by omega
        have hkm : (k : Int) < (M.length : Int) := by omega
        generalize tS L k = t1' at *
        generalize cS L k = d1 at *
        generalize tS M k = t2' at *
        generalize cS M k = d2 at *
        clear f1 f2 f3 f4
        by_cases e1 : t1' = t2'
        · obtain ⟨f1, f2, f3, f4⟩ := CmpF.yes e1
          have E1 := Lib.hid e1
          clear e1
          by_cases e2 : d1 = d2
          · obtain ⟨g1, g2, g3, g4⟩ := CmpF.yes e2
            have E2 := Lib.hid e2
            clear e2
            go_wp2_with fail
            go_quiet (fail)
            go_wp2_with fail
            go_roundw
            case rel => exact ⟨k + 1, by omega, by go_num, by rw [HT1.out, HT2.out, HP.out, E1.out, E2.out], below_drewN hbr _⟩
            case measure => simp [intOf]; omega
          · obtain ⟨g1, g2, g3, g4⟩ := CmpF.no e2
            have HV := Lib.hid (HA.out (fun h => e2 h.2))
            clear e2
            go_wp2_with fail
            go_quiet (fail)
            go_wp2_with fail
            go_ret
            exact RetB.bool HV.out (below_drewN (hb.trans (hbr.mono hb.size)) _)
        · obtain ⟨f1, f2, f3, f4⟩ := CmpF.no e1
          have HV := Lib.hid (HA.out (fun h => e1 h.1))
          clear e1
          go_wp2_with fail
          go_quiet (fail)
          go_wp2_with fail
          go_ret
          exact RetB.bool HV.out (below_drewN (hb.trans (hbr.mono hb.size)) _)
      · have HV := Lib.hid (show true = eqT t1 t2 L M from (eqLs_all HL.out (by have := HP.out; rw [show k = L.length by omega] at this; exact this)).trans HEV.out)
        go_wp2_with fail
        go_ret
        exact RetB.bool HV.out (hb.trans (hbr.mono hb.size))
end Go.Proofs.Ytmnkgfimdlhhiaa
namespace Go.Proofs.Ytmnkgfimdlhhiaa
open Go.RowKit

def TimeOK (S : List Spd) (t : Int) : Prop := 0 ≤ t ∧ t ≤ 1099511627776 ∧ (0 < S.length → tS S (S.length - 1) ≤ t)
noncomputable def spE (P A : Int) (S : List Spd) (t x : Int) : Int :=
  @ite _ (¬ BudOK P A S) (Classical.propDecidable _) 56 (@ite _ (¬ TimeOK S t) (Classical.propDecidable _) 16 (if ¬ (1 ≤ x ∧ x ≤ 1073741824) then 2 else if leftV P A S t < x then 56 else if 256 ≤ S.length then 3 else 0))
noncomputable def spS (P A : Int) (S : List Spd) (t x : Int) : List Spd := if spE P A S t x = 0 then S ++ [(t, x)] else S
theorem spE_bad {P A : Int} {S : List Spd} {t x : Int} (h : ¬ BudOK P A S) : 56 = spE P A S t x := by
  unfold spE; rw [@if_pos _ (Classical.propDecidable _) h]
theorem spE_time {P A : Int} {S : List Spd} {t x : Int} (h : BudOK P A S) (h2 : ¬ TimeOK S t) : 16 = spE P A S t x := by
  unfold spE; rw [@if_neg _ (Classical.propDecidable _) (fun hh => hh h), @if_pos _ (Classical.propDecidable _) h2]
theorem spE_later {P A : Int} {S : List Spd} {t x : Int} (h : BudOK P A S) (h2 : TimeOK S t) : spE P A S t x = if ¬ (1 ≤ x ∧ x ≤ 1073741824) then 2 else if leftV P A S t < x then 56 else if 256 ≤ S.length then 3 else 0 := by
  unfold spE; rw [@if_neg _ (Classical.propDecidable _) (fun hh => hh h), @if_neg _ (Classical.propDecidable _) (fun hh => hh h2)]
theorem spE_cost {P A : Int} {S : List Spd} {t x : Int} (h : BudOK P A S) (h2 : TimeOK S t) (h3 : ¬ (1 ≤ x ∧ x ≤ 1073741824)) : 2 = spE P A S t x := by
  rw [spE_later h h2, if_pos h3]
theorem spE_left {P A : Int} {S : List Spd} {t x : Int} (h : BudOK P A S) (h2 : TimeOK S t) (h3 : 1 ≤ x ∧ x ≤ 1073741824) (h4 : leftV P A S t < x) : 56 = spE P A S t x := by
  rw [spE_later h h2, if_neg (fun hh => hh h3), if_pos h4]
theorem spE_full {P A : Int} {S : List Spd} {t x : Int} (h : BudOK P A S) (h2 : TimeOK S t) (h3 : 1 ≤ x ∧ x ≤ 1073741824) (h4 : ¬ leftV P A S t < x) (h5 : 256 ≤ S.length) : 3 = spE P A S t x := by
  rw [spE_later h h2, if_neg (fun hh => hh h3), if_neg h4, if_pos h5]
theorem spE_good {P A : Int} {S : List Spd} {t x : Int} (h : BudOK P A S) (h2 : TimeOK S t) (h3 : 1 ≤ x ∧ x ≤ 1073741824) (h4 : ¬ leftV P A S t < x) (h5 : ¬ 256 ≤ S.length) : 0 = spE P A S t x := by
  rw [spE_later h h2, if_neg (fun hh => hh h3), if_neg h4, if_neg h5]
theorem spS_err {P A : Int} {S : List Spd} {t x E : Int} (h : E = spE P A S t x) (hE : E ≠ 0) : E = spE P A S t x ∧ S = spS P A S t x := ⟨h, by unfold spS; rw [if_neg (by rw [← h]; exact hE)]⟩
theorem spS_ok {P A : Int} {S : List Spd} {t x : Int} (h : 0 = spE P A S t x) : 0 = spE P A S t x ∧ S ++ [(t, x)] = spS P A S t x := ⟨h, by unfold spS; rw [if_pos h.symm]⟩

/-- The call returns the budget with the spends S, and the error E. -/
def SpendP (w : World) (P A : Int) (S : List Spd) (E : Int) (e : Ending) (w' : World) : Prop :=
  ∃ v, e = .returned (.tuple #[.agg #[.int .i64 P, .int .i64 A, v], .int .i64 E]) ∧ SpOwn w' w.heap.size v S ∧ Below w.heap.size w w'
theorem size_alloc2 (w : World) (a b : Obj) : ((w.alloc a).alloc b).heap.size = w.heap.size + 2 := by simp
/-- The budget in its box, the result's cell, the call's own spends. -/
structure St (w wr : World) (P A : Int) (v : Value) (S : List Spd) : Prop where
  box : BudCell wr w.heap.size P A v
  res : BudCell wr (w.heap.size + 1) 0 0 (.slice none 0 0)
  own : SpOwn wr (w.heap.size + 2) v S
  below : Below w.heap.size w wr
  size : w.heap.size + 2 ≤ wr.heap.size
theorem St.later {w wr w' : World} {P A : Int} {v : Value} {S : List Spd} (h : St w wr P A v S) (hb : Below wr.heap.size wr w') : St w w' P A v S :=
  ⟨h.box.below hb, h.res.below hb, h.own.below hb, h.below.trans (hb.mono (Nat.le_trans (by omega) h.size)), Nat.le_trans h.size hb.size⟩
theorem St.done {w wr : World} {P A : Int} {v : Value} {S : List Spd} (h : St w wr P A v S) :
    BudCell (((wr.setCell ⟨w.heap.size + 1, 0, none⟩ (.int .i64 P)).setCell ⟨w.heap.size + 1, 1, none⟩ (.int .i64 A)).setCell ⟨w.heap.size + 1, 2, none⟩ v) (w.heap.size + 1) P A v ∧
    SpOwn (((wr.setCell ⟨w.heap.size + 1, 0, none⟩ (.int .i64 P)).setCell ⟨w.heap.size + 1, 1, none⟩ (.int .i64 A)).setCell ⟨w.heap.size + 1, 2, none⟩ v) w.heap.size v S ∧
    Below w.heap.size w (((wr.setCell ⟨w.heap.size + 1, 0, none⟩ (.int .i64 P)).setCell ⟨w.heap.size + 1, 1, none⟩ (.int .i64 A)).setCell ⟨w.heap.size + 1, 2, none⟩ v) :=
  ⟨((h.res.set0 P).set1 A).set2 v, (((h.own.set_ _ _ (by simp)).set_ _ _ (by simp)).set_ _ _ (by simp)).mono (by omega),
    below_set (below_set (below_set h.below _ _ (by simp)) _ _ (by simp)) _ _ (by simp)⟩
theorem SpendP.mk {w w' : World} {P A : Int} {v : Value} {S S' : List Spd} {E E' : Int} (h : E = E' ∧ S = S') (hd : SpOwn w' w.heap.size v S ∧ Below w.heap.size w w') : SpendP w P A S' E' (.returned (.tuple #[.agg #[.int .i64 P, .int .i64 A, v], .int .i64 E])) w' := by
  obtain ⟨rfl, rfl⟩ := h
  exact ⟨v, rfl, hd.1, hd.2⟩
theorem St.start {w w1 : World} {P A : Int} {v v' : Value} {S : List Spd} (hb : Below ((w.alloc (.cells #[.int .i64 P, .int .i64 A, v] 24)).alloc (.cells #[.int .i64 0, .int .i64 0, .slice none 0 0] 24)).heap.size ((w.alloc (.cells #[.int .i64 P, .int .i64 A, v] 24)).alloc (.cells #[.int .i64 0, .int .i64 0, .slice none 0 0] 24)) w1)
    (hown : SpOwn w1 ((w.alloc (.cells #[.int .i64 P, .int .i64 A, v] 24)).alloc (.cells #[.int .i64 0, .int .i64 0, .slice none 0 0] 24)).heap.size v' S) :
    (BudCell w1 w.heap.size P A v ∧ BudCell w1 (w.heap.size + 1) 0 0 (.slice none 0 0)) ∧ St w (w1.setCell ⟨w.heap.size, 2, none⟩ v') P A v' S ∧ St w (((w1.setCell ⟨w.heap.size, 0, none⟩ (.int .i64 P)).setCell ⟨w.heap.size, 1, none⟩ (.int .i64 A)).setCell ⟨w.heap.size, 2, none⟩ v') P A v' S := by
  have hs := hb.size
  simp only [size_alloc2] at hs hown
  have h1 : BudCell w1 w.heap.size P A v := ((BudCell.new _ _ _ rfl).alloc _).below hb
  have h2 : BudCell w1 (w.heap.size + 1) 0 0 (.slice none 0 0) := (BudCell.new _ _ _ (by simp)).below hb
  have h3 : Below w.heap.size w w1 := below_of_alloc (below_of_alloc (hb.mono (by simp; omega)) (by simp)) (Nat.le_refl _)
  refine ⟨⟨h1, h2⟩, ⟨h1.set2 _, h2.other _ _ (by simp), hown.set_ _ _ (by simp), below_set h3 _ _ (by simp), by simpa [World.setCell] using hs⟩, ?_⟩
  exact ⟨((h1.set0 P).set1 A).set2 _, ((h2.other _ _ (by simp)).other _ _ (by simp)).other _ _ (by simp), ((hown.set_ _ _ (by simp)).set_ _ _ (by simp)).set_ _ _ (by simp), below_set (below_set (below_set h3 _ _ (by simp)) _ _ (by simp)) _ _ (by simp), by simpa [World.setCell] using hs⟩

theorem one_at (w : World) (t x : Int) : SpAt (w.alloc (.cells #[.int .i64 t, .int .i64 x] 33)) (some ⟨w.heap.size, 0, none⟩) [(t, x)] := fun k hk => by
  have hk : k = 0 := by simpa using hk
  subst hk
  obtain ⟨h1, h2⟩ := pair_cells w t x
  exact ⟨_, _, rfl, by simp, h1, h2⟩
theorem St.appended {w wr w' : World} {P A : Int} {v v' : Value} {S S' : List Spd} {o : Obj} (h : St w wr P A v S) (hg : (wr.alloc o).grownBy w' v.ownBlock) (hown : SpOwn w' (w.heap.size + 2) v' S') :
    BudCell w' w.heap.size P A v ∧ BudCell w' (w.heap.size + 1) 0 0 (.slice none 0 0) ∧ St w (w'.setCell ⟨w.heap.size, 2, none⟩ v') P A v' S' := by
  have hsz := h.size
  have hk : ∀ k, k < w.heap.size + 2 → w'.heap[k]? = wr.heap[k]? := fun k hk => (hg.block k (by simp; omega) (fun e => by have := (h.own.lt k e.symm).1; omega)).trans (heap_alloc_old wr o (by omega))
  have h1 : BudCell w' w.heap.size P A v := (hk _ (by omega)).trans h.box
  have h2 : BudCell w' (w.heap.size + 1) 0 0 (.slice none 0 0) := (hk _ (by omega)).trans h.res
  have h3 : Below w.heap.size w w' := (h.below.alloc (by omega) o).grown hg (by simp; omega) (fun k e => by have := (h.own.lt k e).1; omega)
  have hs := hg.size
  simp at hs
  exact ⟨h1, h2, h1.set2 _, h2.other _ _ (by simp), hown.set_ _ _ (by simp), below_set h3 _ _ (by simp), by simp [World.setCell]; omega⟩

set_option maxRecDepth 100000 in
set_option maxHeartbeats 4000000 in
theorem spend_all (P A : Int) (B : Option Addr) (S : List Spd) (c : Nat) (t x : Int) (w : World) (hS : SpAt w B S) (hA : ∀ a, B = some a → a.spot = none ∨ S.length = 0) (hN : B = none → S.length = 0 ∧ c = 0) (hl : S.length ≤ 100000) :
    Calls Try.prog 19 #[.agg #[.int .i64 P, .int .i64 A, .slice B S.length c], .int .i64 t, .int .i64 x] w (SpendP w P A (spS P A S t x) (spE P A S t x)) := by
  have HS := Lib.hid hS
  clear hS
  go_enter Try.func19, Try.ntmps19
  go_wp2_with fail
  refine (clone_any B S c _ ((HS.out.alloc _).alloc _) hA hN hl).mono ?_
  rintro e w1 ⟨v, rfl, hown, hb⟩
  obtain ⟨C, c', rfl, -, -, -⟩ := hown.at_
  obtain ⟨⟨hX, hY⟩, hSt, -⟩ := St.start hb hown
  have x0 := hX.c0
  have x1 := hX.c1
  have f0 := hX.frozen 0
  have f1 := hX.frozen 1
  have f2 := hX.frozen 2
  have x2 := hX.c2
  clear hX hY hb hown hA hN HS
  go_wp2_with fail
  clear x0 x1 x2 f0 f1 f2
  obtain ⟨C', c'', ec, hC, -, -⟩ := hSt.own.at_
  injection ec with ec1 ec2 ec3
  subst ec1; subst ec3
  refine ret_below (check_any P A C S c' _ hC hl) fun w3 hb3 => ?_
  have hSt3 := hSt.later hb3
  clear hSt hb3 hC
  have x0 := hSt3.box.c0
  have x1 := hSt3.box.c1
  have x2 := hSt3.box.c2
  have y0 := hSt3.res.c0
  have y1 := hSt3.res.c1
  have y2 := hSt3.res.c2
  have f0 := hSt3.res.frozen 0
  have f1 := hSt3.res.frozen 1
  have f2 := hSt3.res.frozen 2
  have hs3 := hSt3.size
  have HST := Lib.hid hSt3
  clear hSt3
  by_cases hok : BudOK P A S
  case neg =>
    have HV := Lib.hid (spS_err (spE_bad (t := t) (x := x) hok) (by omega))
    rw [← budE_bad hok]
    clear hok
    go_wp2_with fail
    obtain ⟨d1, d2⟩ := HST.out.done
    exact bodyPost_ret (results_bud2 rfl _ _ (w.heap.size + 1) rfl d1) rfl (SpendP.mk HV.out d2)
  case pos =>
  have HOK := Lib.hid hok
  rw [budE_ok hok]
  clear hok
  by_cases g0 : 0 ≤ t ∧ t ≤ 1099511627776
  case neg =>
    have HV := Lib.hid (spS_err (spE_time (t := t) (x := x) HOK.out (fun h => g0 ⟨h.1, h.2.1⟩)) (by omega))
    have HT := Lib.hid g0
    clear g0
    go_wp2_with fail
    refine ret_pure (in_no t 0 1099511627776 HT.out _) ?_
    go_wp2_with fail
    obtain ⟨d1, d2⟩ := HST.out.done
    exact bodyPost_ret (results_bud2 rfl _ _ (w.heap.size + 1) rfl d1) rfl (SpendP.mk HV.out d2)
  case pos =>
  have HT := Lib.hid g0
  by_cases h0 : S.length = 0
  · have n0 : ¬ (0 : Int) < (S.length : Int) := by omega
    have HH0 := Lib.hid h0
    clear h0
    have HTO := Lib.hid (show TimeOK S t from ⟨HT.out.1, HT.out.2, fun h => absurd h (by have := HH0.out; omega)⟩)
    by_cases hx1 : 1 ≤ x ∧ x ≤ 1073741824
    case neg =>
      have HV := Lib.hid (spS_err (spE_cost (t := t) (x := x) HOK.out HTO.out hx1) (by omega))
      have HX := Lib.hid hx1
      clear hx1
      go_wp2_with fail
      refine ret_pure (in_yes t 0 1099511627776 HT.out _) ?_
      go_wp2_with fail
      refine ret_pure (in_no x 1 1073741824 HX.out _) ?_
      go_wp2_with fail
      obtain ⟨d1, d2⟩ := HST.out.done
      exact bodyPost_ret (results_bud2 rfl _ _ (w.heap.size + 1) rfl d1) rfl (SpendP.mk HV.out d2)
    case pos =>
    have HX := Lib.hid hx1
    have HC1 := Lib.hid (RowOK.cheap HOK.out.2.1)
    have HTI := Lib.hid (RowOK.times HOK.out.2.1)
    have hp : 1 ≤ P ∧ P ≤ 1099511627776 := ⟨HOK.out.1.1, HOK.out.1.2.1⟩
    have ha : 0 ≤ A ∧ A ≤ 1073741824 := ⟨HOK.out.1.2.2.1, HOK.out.1.2.2.2.1⟩
    have HPP := Lib.hid hp
    have HAA := Lib.hid ha
    clear hp ha
    go_wp2_with fail
    refine ret_pure (in_yes t 0 1099511627776 HT.out _) ?_
    go_wp2_with fail
    refine ret_pure (in_yes x 1 1073741824 HX.out _) ?_
    go_wp2_with fail
    obtain ⟨C2, c2, ec, hC, -, -⟩ := HST.out.own.at_
    injection ec with ec1 ec2 ec3
    subst ec1; subst ec3
    refine ret_below (left_any P A C S c' t _ HPP.out HAA.out hC HTI.out HC1.out hl (Int.le_trans HT.out.2 (by decide))) fun w4 hb4 => ?_
    have hSt3 := HST.out.later hb4
    clear HST x0 x1 x2 y0 y1 y2 f0 f1 f2 hs3 hb4 hC 
    have x0 := hSt3.box.c0
    have x1 := hSt3.box.c1
    have x2 := hSt3.box.c2
    have y0 := hSt3.res.c0
    have y1 := hSt3.res.c1
    have y2 := hSt3.res.c2
    have f0 := hSt3.res.frozen 0
    have f1 := hSt3.res.frozen 1
    have f2 := hSt3.res.frozen 2
    have hs3 := hSt3.size
    have HST := Lib.hid hSt3
    clear hSt3
    by_cases hlx : leftV P A S t < x
    · have HV := Lib.hid (spS_err (spE_left (t := t) (x := x) HOK.out HTO.out HX.out hlx) (by omega))
      go_wp2_with fail
      obtain ⟨d1, d2⟩ := HST.out.done
      exact bodyPost_ret (results_bud2 rfl _ _ (w.heap.size + 1) rfl d1) rfl (SpendP.mk HV.out d2)
    · by_cases h256 : 256 ≤ S.length
      · have HV := Lib.hid (spS_err (spE_full (t := t) (x := x) HOK.out HTO.out HX.out hlx h256) (by omega))
        have h256e : ((S.length : Int) == 256) = true := by have := HOK.out.1.2.2.2.2; simp; omega
        go_wp2_with fail
        all_goals
          obtain ⟨d1, d2⟩ := HST.out.done
          exact bodyPost_ret (results_bud2 rfl _ _ (w.heap.size + 1) rfl d1) rfl (SpendP.mk HV.out d2)
      · have HV := Lib.hid (spS_ok (spE_good (t := t) (x := x) HOK.out HTO.out HX.out hlx h256))
        have h256e : ((S.length : Int) == 256) = false := by simp; omega
        have HOWN := Lib.hid HST.out.own
        have g0' := HST.out.box.frozen 2
        go_wp2_with (first | (at_builtin; refine app_spends rfl (.tmp 58) (.tmp 62) rfl (base := w.heap.size + 2) (S := S) (T := [(t, x)]) (v := .slice C S.length c') (b := w4.heap.size) (off := 0) (c := 1) rfl ((HOWN.out).below (below_alloc _ _)) rfl (one_at _ _ _) (by simp; omega) (by simp; omega) ?_; intro v5 w5 hown5 hg5 hb5; obtain ⟨C5, c5, ev, -, -, -⟩ := hown5.at_; rw [show (S ++ [(t, x)]).length = S.length + 1 by simp] at ev; subst ev; have hSt5 := HST.out.appended hg5 hown5; have z0 := hSt5.1.c0; have z1 := hSt5.1.c1; have z2 := hSt5.1.c2; have z3 := hSt5.1.frozen 2; have z4 := hSt5.2.1.frozen 0; have z5 := hSt5.2.1.frozen 1; have z6 := hSt5.2.1.frozen 2; have z7 := hSt5.2.1.c0; have z8 := hSt5.2.1.c1; have z9 := hSt5.2.1.c2; have HST5 := Lib.hid hSt5.2.2; clear hSt5 hg5 hown5 hb5) | fail)
        obtain ⟨d1, d2⟩ := HST5.out.done
        exact bodyPost_ret (results_bud2 rfl _ _ (w.heap.size + 1) rfl d1) rfl (SpendP.mk HV.out d2)
  · obtain ⟨l, e1, hl1, hl2⟩ : ∃ l : Nat, (S.length : Int) - 1 = (l : Int) ∧ l < S.length ∧ S.length - 1 = l := ⟨S.length - 1, by omega, by omega, rfl⟩
    have HL2 := Lib.hid hl2
    have n0 : (0 : Int) < (S.length : Int) := by omega
    clear hl2 h0
    obtain ⟨C9, c9, ec, hC, -, -⟩ := HST.out.own.at_
    injection ec with ec1 ec2 ec3
    subst ec1; subst ec3
    obtain ⟨b, off, rfl, hbl, q1, -⟩ := hC l hl1
    clear hC
    by_cases hlast : t < tS S l
    · have HV := Lib.hid (spS_err (spE_time (t := t) (x := x) HOK.out (fun h => by have h2 := h.2.2 (by omega); rw [HL2.out] at h2; omega)) (by omega))
      go_wp2_with fail
      refine ret_pure (in_yes t 0 1099511627776 HT.out _) ?_
      go_wp2_with fail
      obtain ⟨d1, d2⟩ := HST.out.done
      exact bodyPost_ret (results_bud2 rfl _ _ (w.heap.size + 1) rfl d1) rfl (SpendP.mk HV.out d2)
    · skip
      have HTO := Lib.hid (show TimeOK S t from ⟨HT.out.1, HT.out.2, fun _ => by rw [HL2.out]; omega⟩)
      by_cases hx1 : 1 ≤ x ∧ x ≤ 1073741824
      case neg =>
        have HV := Lib.hid (spS_err (spE_cost (t := t) (x := x) HOK.out HTO.out hx1) (by omega))
        have HX := Lib.hid hx1
        clear hx1
        go_wp2_with fail
        refine ret_pure (in_yes t 0 1099511627776 HT.out _) ?_
        go_wp2_with fail
        refine ret_pure (in_no x 1 1073741824 HX.out _) ?_
        go_wp2_with fail
        obtain ⟨d1, d2⟩ := HST.out.done
        exact bodyPost_ret (results_bud2 rfl _ _ (w.heap.size + 1) rfl d1) rfl (SpendP.mk HV.out d2)
      case pos =>
      have HX := Lib.hid hx1
      have HC1 := Lib.hid (RowOK.cheap HOK.out.2.1)
      have HTI := Lib.hid (RowOK.times HOK.out.2.1)
      have hp : 1 ≤ P ∧ P ≤ 1099511627776 := ⟨HOK.out.1.1, HOK.out.1.2.1⟩
      have ha : 0 ≤ A ∧ A ≤ 1073741824 := ⟨HOK.out.1.2.2.1, HOK.out.1.2.2.2.1⟩
      have HPP := Lib.hid hp
      have HAA := Lib.hid ha
      clear hp ha
      go_wp2_with fail
      refine ret_pure (in_yes t 0 1099511627776 HT.out _) ?_
      go_wp2_with fail
      refine ret_pure (in_yes x 1 1073741824 HX.out _) ?_
      go_wp2_with fail
      obtain ⟨C2, c2, ec, hC, -, -⟩ := HST.out.own.at_
      injection ec with ec1 ec2 ec3
      subst ec1; subst ec3
      refine ret_below (left_any P A (some ⟨b, off, none⟩) S c' t _ HPP.out HAA.out hC HTI.out HC1.out hl (Int.le_trans HT.out.2 (by decide))) fun w4 hb4 => ?_
      have hSt3 := HST.out.later hb4
      clear HST x0 x1 x2 y0 y1 y2 f0 f1 f2 hs3 hb4 hC q1
      have x0 := hSt3.box.c0
      have x1 := hSt3.box.c1
      have x2 := hSt3.box.c2
      have y0 := hSt3.res.c0
      have y1 := hSt3.res.c1
      have y2 := hSt3.res.c2
      have f0 := hSt3.res.frozen 0
      have f1 := hSt3.res.frozen 1
      have f2 := hSt3.res.frozen 2
      have hs3 := hSt3.size
      have HST := Lib.hid hSt3
      clear hSt3
      by_cases hlx : leftV P A S t < x
      · have HV := Lib.hid (spS_err (spE_left (t := t) (x := x) HOK.out HTO.out HX.out hlx) (by omega))
        go_wp2_with fail
        obtain ⟨d1, d2⟩ := HST.out.done
        exact bodyPost_ret (results_bud2 rfl _ _ (w.heap.size + 1) rfl d1) rfl (SpendP.mk HV.out d2)
      · by_cases h256 : 256 ≤ S.length
        · have HV := Lib.hid (spS_err (spE_full (t := t) (x := x) HOK.out HTO.out HX.out hlx h256) (by omega))
          have h256e : ((S.length : Int) == 256) = true := by have := HOK.out.1.2.2.2.2; simp; omega
          go_wp2_with fail
          all_goals
            obtain ⟨d1, d2⟩ := HST.out.done
            exact bodyPost_ret (results_bud2 rfl _ _ (w.heap.size + 1) rfl d1) rfl (SpendP.mk HV.out d2)
        · have HV := Lib.hid (spS_ok (spE_good (t := t) (x := x) HOK.out HTO.out HX.out hlx h256))
          have h256e : ((S.length : Int) == 256) = false := by simp; omega
          have HOWN := Lib.hid HST.out.own
          have g0' := HST.out.box.frozen 2
          go_wp2_with (first | (at_builtin; refine app_spends rfl (.tmp 58) (.tmp 62) rfl (base := w.heap.size + 2) (S := S) (T := [(t, x)]) (v := .slice (some ⟨b, off, none⟩) S.length c') (b := w4.heap.size) (off := 0) (c := 1) rfl ((HOWN.out).below (below_alloc _ _)) rfl (one_at _ _ _) (by simp; omega) (by simp; omega) ?_; intro v5 w5 hown5 hg5 hb5; obtain ⟨C5, c5, ev, -, -, -⟩ := hown5.at_; rw [show (S ++ [(t, x)]).length = S.length + 1 by simp] at ev; subst ev; have hSt5 := HST.out.appended hg5 hown5; have z0 := hSt5.1.c0; have z1 := hSt5.1.c1; have z2 := hSt5.1.c2; have z3 := hSt5.1.frozen 2; have z4 := hSt5.2.1.frozen 0; have z5 := hSt5.2.1.frozen 1; have z6 := hSt5.2.1.frozen 2; have z7 := hSt5.2.1.c0; have z8 := hSt5.2.1.c1; have z9 := hSt5.2.1.c2; have HST5 := Lib.hid hSt5.2.2; clear hSt5 hg5 hown5 hb5) | fail)
          obtain ⟨d1, d2⟩ := HST5.out.done
          exact bodyPost_ret (results_bud2 rfl _ _ (w.heap.size + 1) rfl d1) rfl (SpendP.mk HV.out d2)

set_option maxRecDepth 100000 in
set_option maxHeartbeats 4000000 in
theorem refSpend_all (P A : Int) (B : Option Addr) (S : List Spd) (c : Nat) (t x : Int) (w : World) (hS : SpAt w B S) (hA : ∀ a, B = some a → a.spot = none ∨ S.length = 0) (hN : B = none → S.length = 0 ∧ c = 0) (hl : S.length ≤ 100000) :
    Calls Try.prog 41 #[.agg #[.int .i64 P, .int .i64 A, .slice B S.length c], .int .i64 t, .int .i64 x] w (SpendP w P A (spS P A S t x) (spE P A S t x)) := by
  have HS := Lib.hid hS
  clear hS
  go_enter Try.func41, Try.ntmps41
  go_wp2_with fail
  refine (copy_any P A B S c _ ((HS.out.alloc _).alloc _) hA hN hl).mono ?_
  rintro e w1 ⟨v, rfl, hown, hb⟩
  obtain ⟨C, c', rfl, -, -, -⟩ := hown.at_
  obtain ⟨⟨hX, hY⟩, -, hSt⟩ := St.start hb hown
  have x0 := hX.c0
  have x1 := hX.c1
  have f0 := hX.frozen 0
  have f1 := hX.frozen 1
  have f2 := hX.frozen 2
  have x2 := hX.c2
  clear hX hY hb hown hA hN HS
  go_wp2_with fail
  clear x0 x1 x2 f0 f1 f2
  obtain ⟨C', c'', ec, hC, -, -⟩ := hSt.own.at_
  injection ec with ec1 ec2 ec3
  subst ec1; subst ec3
  refine ret_below (refCheck_any P A C S c' _ hC hl) fun w3 hb3 => ?_
  have hSt3 := hSt.later hb3
  clear hSt hb3 hC
  have x0 := hSt3.box.c0
  have x1 := hSt3.box.c1
  have x2 := hSt3.box.c2
  have y0 := hSt3.res.c0
  have y1 := hSt3.res.c1
  have y2 := hSt3.res.c2
  have f0 := hSt3.res.frozen 0
  have f1 := hSt3.res.frozen 1
  have f2 := hSt3.res.frozen 2
  have hs3 := hSt3.size
  have HST := Lib.hid hSt3
  clear hSt3
  by_cases hok : BudOK P A S
  case neg =>
    have HV := Lib.hid (spS_err (spE_bad (t := t) (x := x) hok) (by omega))
    rw [← budE_bad hok]
    clear hok
    go_wp2_with fail
    obtain ⟨d1, d2⟩ := HST.out.done
    exact bodyPost_ret (results_bud2 rfl _ _ (w.heap.size + 1) rfl d1) rfl (SpendP.mk HV.out d2)
  case pos =>
  have HOK := Lib.hid hok
  rw [budE_ok hok]
  clear hok
  by_cases g0 : t < 0
  · have HV := Lib.hid (spS_err (spE_time (t := t) (x := x) HOK.out (fun h => by have := h.1; omega)) (by omega))
    go_wp2_with fail
    obtain ⟨d1, d2⟩ := HST.out.done
    exact bodyPost_ret (results_bud2 rfl _ _ (w.heap.size + 1) rfl d1) rfl (SpendP.mk HV.out d2)
  by_cases g1 : 1099511627776 < t
  · have HV := Lib.hid (spS_err (spE_time (t := t) (x := x) HOK.out (fun h => by have := h.2.1; omega)) (by omega))
    go_wp2_with fail
    obtain ⟨d1, d2⟩ := HST.out.done
    exact bodyPost_ret (results_bud2 rfl _ _ (w.heap.size + 1) rfl d1) rfl (SpendP.mk HV.out d2)
  have HT := Lib.hid (show 0 ≤ t ∧ t ≤ 1099511627776 by omega)
  by_cases h0 : S.length = 0
  · have n0 : ¬ (0 : Int) < (S.length : Int) := by omega
    have HH0 := Lib.hid h0
    clear h0
    have HTO := Lib.hid (show TimeOK S t from ⟨HT.out.1, HT.out.2, fun h => absurd h (by have := HH0.out; omega)⟩)
    by_cases hx1 : x < 1
    · have HV := Lib.hid (spS_err (spE_cost (t := t) (x := x) HOK.out HTO.out (fun h => by omega)) (by omega))
      go_wp2_with fail
      obtain ⟨d1, d2⟩ := HST.out.done
      exact bodyPost_ret (results_bud2 rfl _ _ (w.heap.size + 1) rfl d1) rfl (SpendP.mk HV.out d2)
    by_cases hx2 : 1073741824 < x
    · have HV := Lib.hid (spS_err (spE_cost (t := t) (x := x) HOK.out HTO.out (fun h => by omega)) (by omega))
      go_wp2_with fail
      obtain ⟨d1, d2⟩ := HST.out.done
      exact bodyPost_ret (results_bud2 rfl _ _ (w.heap.size + 1) rfl d1) rfl (SpendP.mk HV.out d2)
    have HX := Lib.hid (show 1 ≤ x ∧ x ≤ 1073741824 by omega)
    have HC1 := Lib.hid (RowOK.cheap HOK.out.2.1)
    have HTI := Lib.hid (RowOK.times HOK.out.2.1)
    have hp : 1 ≤ P ∧ P ≤ 1099511627776 := ⟨HOK.out.1.1, HOK.out.1.2.1⟩
    have ha : 0 ≤ A ∧ A ≤ 1073741824 := ⟨HOK.out.1.2.2.1, HOK.out.1.2.2.2.1⟩
    have HPP := Lib.hid hp
    have HAA := Lib.hid ha
    clear hp ha
    go_wp2_with fail
    obtain ⟨C2, c2, ec, hC, -, -⟩ := HST.out.own.at_
    injection ec with ec1 ec2 ec3
    subst ec1; subst ec3
    refine ret_below (refLeft_any P A C S c' t _ HPP.out HAA.out hC HC1.out hl (Int.le_trans HT.out.2 (by decide))) fun w4 hb4 => ?_
    have hSt3 := HST.out.later hb4
    clear HST x0 x1 x2 y0 y1 y2 f0 f1 f2 hs3 hb4 hC 
    have x0 := hSt3.box.c0
    have x1 := hSt3.box.c1
    have x2 := hSt3.box.c2
    have y0 := hSt3.res.c0
    have y1 := hSt3.res.c1
    have y2 := hSt3.res.c2
    have f0 := hSt3.res.frozen 0
    have f1 := hSt3.res.frozen 1
    have f2 := hSt3.res.frozen 2
    have hs3 := hSt3.size
    have HST := Lib.hid hSt3
    clear hSt3
    by_cases hlx : leftV P A S t < x
    · have HV := Lib.hid (spS_err (spE_left (t := t) (x := x) HOK.out HTO.out HX.out hlx) (by omega))
      go_wp2_with fail
      obtain ⟨d1, d2⟩ := HST.out.done
      exact bodyPost_ret (results_bud2 rfl _ _ (w.heap.size + 1) rfl d1) rfl (SpendP.mk HV.out d2)
    · by_cases h256 : 256 ≤ S.length
      · have HV := Lib.hid (spS_err (spE_full (t := t) (x := x) HOK.out HTO.out HX.out hlx h256) (by omega))
        have h256e : ((S.length : Int) == 256) = true := by have := HOK.out.1.2.2.2.2; simp; omega
        go_wp2_with fail
        all_goals
          obtain ⟨d1, d2⟩ := HST.out.done
          exact bodyPost_ret (results_bud2 rfl _ _ (w.heap.size + 1) rfl d1) rfl (SpendP.mk HV.out d2)
      · have HV := Lib.hid (spS_ok (spE_good (t := t) (x := x) HOK.out HTO.out HX.out hlx h256))
        have h256e : ((S.length : Int) == 256) = false := by simp; omega
        have HOWN := Lib.hid HST.out.own
        have g0' := HST.out.box.frozen 2
        go_wp2_with (first | (at_builtin; refine app_spends rfl (.tmp 62) (.tmp 66) rfl (base := w.heap.size + 2) (S := S) (T := [(t, x)]) (v := .slice C S.length c') (b := w4.heap.size) (off := 0) (c := 1) rfl ((HOWN.out).below (below_alloc _ _)) rfl (one_at _ _ _) (by simp; omega) (by simp; omega) ?_; intro v5 w5 hown5 hg5 hb5; obtain ⟨C5, c5, ev, -, -, -⟩ := hown5.at_; rw [show (S ++ [(t, x)]).length = S.length + 1 by simp] at ev; subst ev; have hSt5 := HST.out.appended hg5 hown5; have z0 := hSt5.1.c0; have z1 := hSt5.1.c1; have z2 := hSt5.1.c2; have z3 := hSt5.1.frozen 2; have z4 := hSt5.2.1.frozen 0; have z5 := hSt5.2.1.frozen 1; have z6 := hSt5.2.1.frozen 2; have z7 := hSt5.2.1.c0; have z8 := hSt5.2.1.c1; have z9 := hSt5.2.1.c2; have HST5 := Lib.hid hSt5.2.2; clear hSt5 hg5 hown5 hb5) | fail)
        obtain ⟨d1, d2⟩ := HST5.out.done
        exact bodyPost_ret (results_bud2 rfl _ _ (w.heap.size + 1) rfl d1) rfl (SpendP.mk HV.out d2)
  · obtain ⟨l, e1, hl1, hl2⟩ : ∃ l : Nat, (S.length : Int) - 1 = (l : Int) ∧ l < S.length ∧ S.length - 1 = l := ⟨S.length - 1, by omega, by omega, rfl⟩
    have HL2 := Lib.hid hl2
    have n0 : (0 : Int) < (S.length : Int) := by omega
    clear hl2 h0
    obtain ⟨C9, c9, ec, hC, -, -⟩ := HST.out.own.at_
    injection ec with ec1 ec2 ec3
    subst ec1; subst ec3
    obtain ⟨b, off, rfl, hbl, q1, -⟩ := hC l hl1
    clear hC
    by_cases hlast : t < tS S l
    · have HV := Lib.hid (spS_err (spE_time (t := t) (x := x) HOK.out (fun h => by have h2 := h.2.2 (by omega); rw [HL2.out] at h2; omega)) (by omega))
      go_wp2_with fail
      obtain ⟨d1, d2⟩ := HST.out.done
      exact bodyPost_ret (results_bud2 rfl _ _ (w.heap.size + 1) rfl d1) rfl (SpendP.mk HV.out d2)
    · skip
      have HTO := Lib.hid (show TimeOK S t from ⟨HT.out.1, HT.out.2, fun _ => by rw [HL2.out]; omega⟩)
      by_cases hx1 : x < 1
      · have HV := Lib.hid (spS_err (spE_cost (t := t) (x := x) HOK.out HTO.out (fun h => by omega)) (by omega))
        go_wp2_with fail
        obtain ⟨d1, d2⟩ := HST.out.done
        exact bodyPost_ret (results_bud2 rfl _ _ (w.heap.size + 1) rfl d1) rfl (SpendP.mk HV.out d2)
      by_cases hx2 : 1073741824 < x
      · have HV := Lib.hid (spS_err (spE_cost (t := t) (x := x) HOK.out HTO.out (fun h => by omega)) (by omega))
        go_wp2_with fail
        obtain ⟨d1, d2⟩ := HST.out.done
        exact bodyPost_ret (results_bud2 rfl _ _ (w.heap.size + 1) rfl d1) rfl (SpendP.mk HV.out d2)
      have HX := Lib.hid (show 1 ≤ x ∧ x ≤ 1073741824 by omega)
      have HC1 := Lib.hid (RowOK.cheap HOK.out.2.1)
      have HTI := Lib.hid (RowOK.times HOK.out.2.1)
      have hp : 1 ≤ P ∧ P ≤ 1099511627776 := ⟨HOK.out.1.1, HOK.out.1.2.1⟩
      have ha : 0 ≤ A ∧ A ≤ 1073741824 := ⟨HOK.out.1.2.2.1, HOK.out.1.2.2.2.1⟩
      have HPP := Lib.hid hp
      have HAA := Lib.hid ha
      clear hp ha
      go_wp2_with fail
      obtain ⟨C2, c2, ec, hC, -, -⟩ := HST.out.own.at_
      injection ec with ec1 ec2 ec3
      subst ec1; subst ec3
      refine ret_below (refLeft_any P A (some ⟨b, off, none⟩) S c' t _ HPP.out HAA.out hC HC1.out hl (Int.le_trans HT.out.2 (by decide))) fun w4 hb4 => ?_
      have hSt3 := HST.out.later hb4
      clear HST x0 x1 x2 y0 y1 y2 f0 f1 f2 hs3 hb4 hC q1
      have x0 := hSt3.box.c0
      have x1 := hSt3.box.c1
      have x2 := hSt3.box.c2
      have y0 := hSt3.res.c0
      have y1 := hSt3.res.c1
      have y2 := hSt3.res.c2
      have f0 := hSt3.res.frozen 0
      have f1 := hSt3.res.frozen 1
      have f2 := hSt3.res.frozen 2
      have hs3 := hSt3.size
      have HST := Lib.hid hSt3
      clear hSt3
      by_cases hlx : leftV P A S t < x
      · have HV := Lib.hid (spS_err (spE_left (t := t) (x := x) HOK.out HTO.out HX.out hlx) (by omega))
        go_wp2_with fail
        obtain ⟨d1, d2⟩ := HST.out.done
        exact bodyPost_ret (results_bud2 rfl _ _ (w.heap.size + 1) rfl d1) rfl (SpendP.mk HV.out d2)
      · by_cases h256 : 256 ≤ S.length
        · have HV := Lib.hid (spS_err (spE_full (t := t) (x := x) HOK.out HTO.out HX.out hlx h256) (by omega))
          have h256e : ((S.length : Int) == 256) = true := by have := HOK.out.1.2.2.2.2; simp; omega
          go_wp2_with fail
          all_goals
            obtain ⟨d1, d2⟩ := HST.out.done
            exact bodyPost_ret (results_bud2 rfl _ _ (w.heap.size + 1) rfl d1) rfl (SpendP.mk HV.out d2)
        · have HV := Lib.hid (spS_ok (spE_good (t := t) (x := x) HOK.out HTO.out HX.out hlx h256))
          have h256e : ((S.length : Int) == 256) = false := by simp; omega
          have HOWN := Lib.hid HST.out.own
          have g0' := HST.out.box.frozen 2
          go_wp2_with (first | (at_builtin; refine app_spends rfl (.tmp 62) (.tmp 66) rfl (base := w.heap.size + 2) (S := S) (T := [(t, x)]) (v := .slice (some ⟨b, off, none⟩) S.length c') (b := w4.heap.size) (off := 0) (c := 1) rfl ((HOWN.out).below (below_alloc _ _)) rfl (one_at _ _ _) (by simp; omega) (by simp; omega) ?_; intro v5 w5 hown5 hg5 hb5; obtain ⟨C5, c5, ev, -, -, -⟩ := hown5.at_; rw [show (S ++ [(t, x)]).length = S.length + 1 by simp] at ev; subst ev; have hSt5 := HST.out.appended hg5 hown5; have z0 := hSt5.1.c0; have z1 := hSt5.1.c1; have z2 := hSt5.1.c2; have z3 := hSt5.1.frozen 2; have z4 := hSt5.2.1.frozen 0; have z5 := hSt5.2.1.frozen 1; have z6 := hSt5.2.1.frozen 2; have z7 := hSt5.2.1.c0; have z8 := hSt5.2.1.c1; have z9 := hSt5.2.1.c2; have HST5 := Lib.hid hSt5.2.2; clear hSt5 hg5 hown5 hb5) | fail)
          obtain ⟨d1, d2⟩ := HST5.out.done
          exact bodyPost_ret (results_bud2 rfl _ _ (w.heap.size + 1) rfl d1) rfl (SpendP.mk HV.out d2)
theorem spend_any (P A : Int) (B : Option Addr) (S : List Spd) (c : Nat) (t x : Int) (w : World) (hS : SpAt w B S) (hA : ∀ a, B = some a → a.spot = none ∨ S.length = 0) (hN : B = none → S.length = 0 ∧ c = 0) (hl : S.length ≤ 100000) (_ : t ≤ 2199023255552) :
    Calls Try.prog 19 #[.agg #[.int .i64 P, .int .i64 A, .slice B S.length c], .int .i64 t, .int .i64 x] w (SpendP w P A (spS P A S t x) (spE P A S t x)) := spend_all P A B S c t x w hS hA hN hl
theorem refSpend_any (P A : Int) (B : Option Addr) (S : List Spd) (c : Nat) (t x : Int) (w : World) (hS : SpAt w B S) (hA : ∀ a, B = some a → a.spot = none ∨ S.length = 0) (hN : B = none → S.length = 0 ∧ c = 0) (hl : S.length ≤ 100000) (_ : t ≤ 2199023255552) :
    Calls Try.prog 41 #[.agg #[.int .i64 P, .int .i64 A, .slice B S.length c], .int .i64 t, .int .i64 x] w (SpendP w P A (spS P A S t x) (spE P A S t x)) := refSpend_all P A B S c t x w hS hA hN hl
end Go.Proofs.Ytmnkgfimdlhhiaa
namespace Go.Proofs.Ytmnkgfimdlhhiaa
open Go.RowKit

def UsOK (T A B : Int) (us : List Int) : Prop := ∀ k, k < us.length → inI (nth us k) 0 (totalW T A B - 1) = true
instance (T A B : Int) (us : List Int) : Decidable (UsOK T A B us) := by unfold UsOK; exact inferInstance
def PbOK (T A B : Int) (ds us : List Int) : Prop := RowsOK ds ∧ us.length = ds.length ∧ UsOK T A B us
instance (T A B : Int) (ds us : List Int) : Decidable (PbOK T A B ds us) := by unfold PbOK; exact inferInstance
noncomputable def pbE (T A B P Am : Int) (S : List Spd) (tm : Int) (ds us : List Int) : Int := if ¬ Good T A B then 57 else if ¬ PbOK T A B ds us then 2 else spE P Am S tm 1
noncomputable def pbS (T A B P Am : Int) (S : List Spd) (tm : Int) (ds us : List Int) : List Spd := if pbE T A B P Am S tm ds us = 0 then S ++ [(tm, 1)] else S
def lnK (T A B : Int) (L : List Spd) (ds us : List Int) (k : Nat) : List Spd := (List.range k).map fun i => (nth ds i, drawV T A B (clC T L (nth ds i)) (nth us i))
noncomputable def pbL (T A B P Am : Int) (S : List Spd) (tm : Int) (L : List Spd) (ds us : List Int) : List Spd := if pbE T A B P Am S tm ds us = 0 then lnK T A B L ds us ds.length else []
noncomputable def pbT (T A B P Am : Int) (S : List Spd) (tm : Int) (ds us : List Int) : Int := if pbE T A B P Am S tm ds us = 0 then tm else 0
theorem lnK_succ (T A B : Int) (L : List Spd) (ds us : List Int) (k : Nat) : lnK T A B L ds us (k + 1) = lnK T A B L ds us k ++ [(nth ds k, drawV T A B (clC T L (nth ds k)) (nth us k))] := by
  unfold lnK; rw [List.range_succ, List.map_append]; rfl
theorem lnK_len (T A B : Int) (L : List Spd) (ds us : List Int) (k : Nat) : (lnK T A B L ds us k).length = k := by simp [lnK]

/-- What a call of Publish returns. -/
def PubP (P Am tm : Int) (Ls S : List Spd) (E : Int) (w : World) (e : Ending) (w' : World) : Prop :=
  ∃ u v, e = .returned (.tuple #[.agg #[.int .i64 tm, u], .agg #[.int .i64 P, .int .i64 Am, v], .int .i64 E]) ∧ ElOwn elL 74 w' w.heap.size u Ls ∧ SpOwn w' w.heap.size v S ∧ Below w.heap.size w w'
noncomputable def PubQ (T A B P Am : Int) (S : List Spd) (tm : Int) (L : List Spd) (ds us : List Int) : World → Ending → World → Prop :=
  PubP P Am (pbT T A B P Am S tm ds us) (pbL T A B P Am S tm L ds us) (pbS T A B P Am S tm ds us) (pbE T A B P Am S tm ds us)
theorem PubQ.err {T A B P Am : Int} {S : List Spd} {tm : Int} {L : List Spd} {ds us : List Int} {E : Int} {w : World} {e : Ending} {w' : World} (hE : pbE T A B P Am S tm ds us = E) (h0 : E ≠ 0) (h : PubP P Am 0 [] S E w e w') : PubQ T A B P Am S tm L ds us w e w' := by
  unfold PubQ pbT pbL pbS
  rw [hE, if_neg h0, if_neg h0, if_neg h0]; exact h
theorem PubQ.ok {T A B P Am : Int} {S : List Spd} {tm : Int} {L : List Spd} {ds us : List Int} {w : World} {e : Ending} {w' : World} (hE : pbE T A B P Am S tm ds us = 0) (h : PubP P Am tm (lnK T A B L ds us ds.length) (S ++ [(tm, 1)]) 0 w e w') : PubQ T A B P Am S tm L ds us w e w' := by
  unfold PubQ pbT pbL pbS
  rw [hE, if_pos rfl, if_pos rfl, if_pos rfl]; exact h
theorem pbE_noise {T A B P Am : Int} {S : List Spd} {tm : Int} {ds us : List Int} (h : ¬ Good T A B) : pbE T A B P Am S tm ds us = 57 := by unfold pbE; rw [if_pos h]
theorem pbE_range {T A B P Am : Int} {S : List Spd} {tm : Int} {ds us : List Int} (h : Good T A B) (h2 : ¬ PbOK T A B ds us) : pbE T A B P Am S tm ds us = 2 := by unfold pbE; rw [if_neg (fun H => H h), if_pos h2]
theorem pbE_spend {T A B P Am : Int} {S : List Spd} {tm : Int} {ds us : List Int} (h : Good T A B) (h2 : PbOK T A B ds us) : pbE T A B P Am S tm ds us = spE P Am S tm 1 := by unfold pbE; rw [if_neg (fun H => H h), if_neg (fun H => H h2)]

theorem TabCell.frozen {w : World} {x : Nat} {tm : Int} {v : Value} (h : TabCell w x tm v) (j : Nat) : w.frozen? ⟨x, j, none⟩ = false := by
  unfold TabCell at h; simp [World.frozen?, h]
theorem TabCell.set0 {w : World} {x : Nat} {tm : Int} {v : Value} (h : TabCell w x tm v) (tm' : Int) : TabCell (w.setCell ⟨x, 0, none⟩ (.int .i64 tm')) x tm' v := by
  unfold TabCell at h ⊢; simp [World.setCell, Array.getElem?_modify, h]
theorem TabCell.set1 {w : World} {x : Nat} {tm : Int} {v : Value} (h : TabCell w x tm v) (v' : Value) : TabCell (w.setCell ⟨x, 1, none⟩ v') x tm v' := by
  unfold TabCell at h ⊢; simp [World.setCell, Array.getElem?_modify, h]
theorem TabCell.other {w : World} {x : Nat} {tm : Int} {v : Value} (h : TabCell w x tm v) (p : Addr) (u : Value) (hp : x ≠ p.block) : TabCell (w.setCell p u) x tm v :=
  (Below.heap_setCell w p u x hp).trans h
theorem NzCell.other {w : World} {x : Nat} {T A B : Int} (h : NzCell w x T A B) (p : Addr) (u : Value) (hp : x ≠ p.block) : NzCell (w.setCell p u) x T A B :=
  (Below.heap_setCell w p u x hp).trans h
theorem results_cell2_tmp {fn : Func} {p q u : Tmp} {ty ty2 : TypeId} (h : fn.results = #[.cell p ty, .cell q ty2, .tmp u]) (tmps : Array Value) (P : Program) (w : World) :
    (results fn tmps).run P w =
      ((asAddr (tmps.getD p undef)).run P w).andThen fun a w1 => ((loadVar ty a).run P w1).andThen fun v w2 => ((asAddr (tmps.getD q undef)).run P w2).andThen fun a2 w3 => ((loadVar ty2 a2).run P w3).andThen fun v2 w4 => .ok (.tuple #[v, v2, tmps.getD u undef]) w4 := by
  simp only [results, h]
  simp [Sem.run_bind, Result.andThen]
theorem results_pub {fn : Func} {p q u : Tmp} (h : fn.results = #[.cell p 52, .cell q 24, .tmp u]) (tmps : Array Value) (w : World) (g1 g2 : Nat) (hp : tmps.getD p undef = .pointer (some ⟨g1, 0, none⟩)) (hq : tmps.getD q undef = .pointer (some ⟨g2, 0, none⟩)) {tm P A : Int} {v v' : Value} (hX : TabCell w g1 tm v) (hY : BudCell w g2 P A v') :
    (results fn tmps).run Try.prog w = .ok (.tuple #[.agg #[.int .i64 tm, v], .agg #[.int .i64 P, .int .i64 A, v'], tmps.getD u undef]) w := by
  rw [results_cell2_tmp h, hp, hq]
  have hl := run_loadVar_row (P := Try.prog) w g1 52 52 _ (0, 0) _ hX Try.underlying52 rfl (by kernel_rfl)
  have hl2 := run_loadVar_row (P := Try.prog) w g2 24 24 _ (0, 0) _ hY Try.underlying24 rfl (by kernel_rfl)
  simp [asAddr, hl, hl2, Result.andThen]

/-- Publish under way. -/
structure Pst (w wr : World) (T A B P Am : Int) (v : Value) (S : List Spd) : Prop where
  nz : NzCell wr w.heap.size T A B
  box : BudCell wr (w.heap.size + 1) P Am v
  tab : TabCell wr (w.heap.size + 1 + 1) 0 (.slice none 0 0)
  res : BudCell wr (w.heap.size + 1 + 1 + 1) 0 0 (.slice none 0 0)
  own : SpOwn wr (w.heap.size + 4) v S
  below : Below w.heap.size w wr
  size : w.heap.size + 4 ≤ wr.heap.size
theorem Pst.later {w wr w' : World} {T A B P Am : Int} {v : Value} {S : List Spd} (h : Pst w wr T A B P Am v S) (hb : Below wr.heap.size wr w') : Pst w w' T A B P Am v S :=
  ⟨h.nz.below hb, h.box.below hb, h.tab.below hb, h.res.below hb, h.own.below hb, h.below.trans (hb.mono (Nat.le_trans (by omega) h.size)), Nat.le_trans h.size hb.size⟩
def pub0 (w : World) (T A B P Am : Int) (v : Value) : World := (((w.alloc (.cells #[.int .i64 T, .int .i64 A, .int .i64 B] 47)).alloc (.cells #[.int .i64 P, .int .i64 Am, v] 24)).alloc (.cells #[.int .i64 0, .slice none 0 0] 52)).alloc (.cells #[.int .i64 0, .int .i64 0, .slice none 0 0] 24)
theorem pub0_size (w : World) (T A B P Am : Int) (v : Value) : (pub0 w T A B P Am v).heap.size = w.heap.size + 4 := by simp [pub0]
theorem pub0_below (w : World) (T A B P Am : Int) (v : Value) : Below w.heap.size w (pub0 w T A B P Am v) := (((below_alloc _ _).alloc (by simp) _).alloc (by simp; omega) _).alloc (by simp; omega) _
theorem Pst.start {w w1 : World} {T A B P Am : Int} {v v' : Value} {S : List Spd} (hb : Below (pub0 w T A B P Am v).heap.size (pub0 w T A B P Am v) w1) (hown : SpOwn w1 (pub0 w T A B P Am v).heap.size v' S) :
    (NzCell w1 w.heap.size T A B ∧ BudCell w1 (w.heap.size + 1) P Am v ∧ TabCell w1 (w.heap.size + 1 + 1) 0 (.slice none 0 0) ∧ BudCell w1 (w.heap.size + 1 + 1 + 1) 0 0 (.slice none 0 0)) ∧ Pst w (w1.setCell ⟨w.heap.size + 1, 2, none⟩ v') T A B P Am v' S ∧
      Pst w (((w1.setCell ⟨w.heap.size + 1, 0, none⟩ (.int .i64 P)).setCell ⟨w.heap.size + 1, 1, none⟩ (.int .i64 Am)).setCell ⟨w.heap.size + 1, 2, none⟩ v') T A B P Am v' S := by
  have hs := hb.size
  rw [pub0_size] at hs hown
  have h0 : NzCell w1 w.heap.size T A B := ((((NzCell.new _ _ _ rfl).alloc _).alloc _).alloc _).below hb
  have h1 : BudCell w1 (w.heap.size + 1) P Am v := (((BudCell.new _ _ _ (by simp)).alloc _).alloc _).below hb
  have h2 : TabCell w1 (w.heap.size + 1 + 1) 0 (.slice none 0 0) := ((TabCell.new _ _ (by simp)).below (below_alloc _ _)).below hb
  have h3 : BudCell w1 (w.heap.size + 1 + 1 + 1) 0 0 (.slice none 0 0) := (BudCell.new _ _ _ (by simp)).below hb
  have h4 : Below w.heap.size w w1 := (pub0_below w T A B P Am v).trans (hb.mono (by rw [pub0_size]; omega))
  refine ⟨⟨h0, h1, h2, h3⟩, ⟨h0.other _ _ (by simp), h1.set2 _, h2.other _ _ (by simp), h3.other _ _ (by simp; omega), hown.set_ _ _ (by simp), below_set h4 _ _ (by simp), by simpa [World.setCell] using hs⟩, ?_⟩
  exact ⟨((h0.other _ _ (by simp)).other _ _ (by simp)).other _ _ (by simp), ((h1.set0 P).set1 Am).set2 _, ((h2.other _ _ (by simp)).other _ _ (by simp)).other _ _ (by simp), ((h3.other _ _ (by simp; omega)).other _ _ (by simp; omega)).other _ _ (by simp; omega), ((hown.set_ _ _ (by simp)).set_ _ _ (by simp)).set_ _ _ (by simp), below_set (below_set (below_set h4 _ _ (by simp)) _ _ (by simp)) _ _ (by simp), by simpa [World.setCell] using hs⟩
def pubW (w wr : World) (tm P Am : Int) (u v : Value) : World := ((((wr.setCell ⟨w.heap.size + 1 + 1, 0, none⟩ (.int .i64 tm)).setCell ⟨w.heap.size + 1 + 1, 1, none⟩ u).setCell ⟨w.heap.size + 1 + 1 + 1, 0, none⟩ (.int .i64 P)).setCell ⟨w.heap.size + 1 + 1 + 1, 1, none⟩ (.int .i64 Am)).setCell ⟨w.heap.size + 1 + 1 + 1, 2, none⟩ v
theorem pub_done {w wr : World} {t0 p0 a0 : Int} {u0 s0 u v : Value} {Ls S : List Spd} (tm P Am : Int) (tab : TabCell wr (w.heap.size + 1 + 1) t0 u0) (res : BudCell wr (w.heap.size + 1 + 1 + 1) p0 a0 s0) (hu : ElOwn elL 74 wr (w.heap.size + 4) u Ls) (hv : SpOwn wr (w.heap.size + 4) v S) (hb : Below w.heap.size w wr) :
    TabCell (pubW w wr tm P Am u v) (w.heap.size + 1 + 1) tm u ∧ BudCell (pubW w wr tm P Am u v) (w.heap.size + 1 + 1 + 1) P Am v ∧ ∀ E, PubP P Am tm Ls S E w (.returned (.tuple #[.agg #[.int .i64 tm, u], .agg #[.int .i64 P, .int .i64 Am, v], .int .i64 E])) (pubW w wr tm P Am u v) := by
  refine ⟨((((tab.set0 tm).set1 u).other _ _ (by simp)).other _ _ (by simp)).other _ _ (by simp), (((((res.other _ _ (by simp)).other _ _ (by simp)).set0 P).set1 Am).set2 v), fun E => ⟨u, v, rfl, ?_, ?_, ?_⟩⟩
  · exact (((((hu.set_ _ _ (by simp)).set_ _ _ (by simp)).set_ _ _ (by simp)).set_ _ _ (by simp)).set_ _ _ (by simp)).mono (by omega)
  · exact (((((hv.set_ _ _ (by simp)).set_ _ _ (by simp)).set_ _ _ (by simp)).set_ _ _ (by simp)).set_ _ _ (by simp)).mono (by omega)
  · exact below_set (below_set (below_set (below_set (below_set hb _ _ (by simp; omega)) _ _ (by simp; omega)) _ _ (by simp; omega)) _ _ (by simp; omega)) _ _ (by simp; omega)
theorem PubP.drew {P Am tm : Int} {Ls S : List Spd} {E : Int} {w : World} {e : Ending} {w' : World} (h : PubP P Am tm Ls S E w e w') : PubP P Am tm Ls S E w e w'.drew := by
  obtain ⟨u, v, h1, h2, h3, h4⟩ := h
  exact ⟨u, v, h1, h2, h3, ⟨h4.os, h4.tape, h4.output, h4.size, h4.block⟩⟩
theorem PubP.drewN {P Am tm : Int} {Ls S : List Spd} {E : Int} {w : World} {e : Ending} {w' : World} (h : PubP P Am tm Ls S E w e w') (n : Nat) : PubP P Am tm Ls S E w e (w'.drewN n) := by
  obtain ⟨u, v, h1, h2, h3, h4⟩ := h
  exact ⟨u, v, h1, h2, h3, below_drewN h4 n⟩
theorem Pst.done {w wr : World} {T A B P Am : Int} {v : Value} {S : List Spd} (h : Pst w wr T A B P Am v S) :
    TabCell (pubW w wr 0 P Am (.slice none 0 0) v) (w.heap.size + 1 + 1) 0 (.slice none 0 0) ∧ BudCell (pubW w wr 0 P Am (.slice none 0 0) v) (w.heap.size + 1 + 1 + 1) P Am v ∧ ∀ E, PubP P Am 0 [] S E w (.returned (.tuple #[.agg #[.int .i64 0, .slice none 0 0], .agg #[.int .i64 P, .int .i64 Am, v], .int .i64 E])) (pubW w wr 0 P Am (.slice none 0 0) v) :=
  pub_done 0 P Am h.tab h.res (ElOwn.nil _ _ _ _) h.own h.below
theorem TabCell.drew {w : World} {x : Nat} {tm : Int} {v : Value} (h : TabCell w x tm v) : TabCell w.drew x tm v := h
theorem BudCell.drewE {w : World} {x : Nat} {P A : Int} {v : Value} (h : BudCell w x P A v) : BudCell w.drew x P A v := h
theorem pub_ret {fn : Func} (hf : fn.results = #[.cell 12 52, .cell 13 24, .tmp 14]) {w wr : World} {t0 p0 a0 : Int} {u0 s0 u v : Value} {Ls S : List Spd} (tm P Am : Int) (tab : TabCell wr (w.heap.size + 1 + 1) t0 u0) (res : BudCell wr (w.heap.size + 1 + 1 + 1) p0 a0 s0) (hu : ElOwn elL 74 wr (w.heap.size + 4) u Ls) (hv : SpOwn wr (w.heap.size + 4) v S) (hb : Below w.heap.size w wr)
    {R : Ending → World → Prop} {a : Act} (h12 : a.tmps.getD 12 undef = .pointer (some ⟨w.heap.size + 1 + 1, 0, none⟩)) (h13 : a.tmps.getD 13 undef = .pointer (some ⟨w.heap.size + 1 + 1 + 1, 0, none⟩)) {E : Int} (h14 : a.tmps.getD 14 undef = .int .i64 E) (hd : a.defers = [])
    (hR : ∀ e W, PubP P Am tm Ls S E w e W → R e W) :
    bodyPost Try.prog fn R .ret a (((((wr.setCell ⟨w.heap.size + 1 + 1, 0, none⟩ (.int .i64 tm)).setCell ⟨w.heap.size + 1 + 1, 1, none⟩ u).setCell ⟨w.heap.size + 1 + 1 + 1, 0, none⟩ (.int .i64 P)).setCell ⟨w.heap.size + 1 + 1 + 1, 1, none⟩ (.int .i64 Am)).setCell ⟨w.heap.size + 1 + 1 + 1, 2, none⟩ v).drew := by
  obtain ⟨d1, d2, d3⟩ := pub_done tm P Am tab res hu hv hb
  have hr := results_pub hf a.tmps (pubW w wr tm P Am u v).drew _ _ h12 h13 d1.drew d2.drewE
  rw [h14] at hr
  exact bodyPost_ret hr hd (hR _ _ (d3 E).drew)
theorem Pst.ret {fn : Func} (hf : fn.results = #[.cell 12 52, .cell 13 24, .tmp 14]) {w wr : World} {T A B P Am : Int} {v : Value} {S : List Spd} (h : Pst w wr T A B P Am v S)
    {R : Ending → World → Prop} {a : Act} (h12 : a.tmps.getD 12 undef = .pointer (some ⟨w.heap.size + 1 + 1, 0, none⟩)) (h13 : a.tmps.getD 13 undef = .pointer (some ⟨w.heap.size + 1 + 1 + 1, 0, none⟩)) {E : Int} (h14 : a.tmps.getD 14 undef = .int .i64 E) (hd : a.defers = [])
    (hR : ∀ e W, PubP P Am 0 [] S E w e W → R e W) :
    bodyPost Try.prog fn R .ret a (((((wr.setCell ⟨w.heap.size + 1 + 1, 0, none⟩ (.int .i64 0)).setCell ⟨w.heap.size + 1 + 1, 1, none⟩ (.slice none 0 0)).setCell ⟨w.heap.size + 1 + 1 + 1, 0, none⟩ (.int .i64 P)).setCell ⟨w.heap.size + 1 + 1 + 1, 1, none⟩ (.int .i64 Am)).setCell ⟨w.heap.size + 1 + 1 + 1, 2, none⟩ v).drew :=
  pub_ret hf 0 P Am h.tab h.res (ElOwn.nil _ _ _ _) h.own h.below h12 h13 h14 hd hR
theorem SpOwn.spotE {w : World} {base n c : Nat} {C : Option Addr} {S : List Spd} (h : SpOwn w base (.slice C n c) S) : ∀ a, C = some a → a.spot = none ∨ S.length = 0 := fun a ha => by
  rcases h.2 with ⟨h0, _⟩ | ⟨g', cap, cur, hv, _⟩
  · injection h0 with h1; rw [h1] at ha; cases ha
  · injection hv with h1; rw [h1] at ha; injection ha with ha; left; rw [← ha]
theorem SpOwn.nilcapE {w : World} {base n c : Nat} {C : Option Addr} {S : List Spd} (h : SpOwn w base (.slice C n c) S) : C = none → S.length = 0 ∧ c = 0 := fun ha => by
  rcases h.2 with ⟨h0, h2⟩ | ⟨g', cap, cur, hv, _⟩
  · injection h0 with h1 h3 h4; exact ⟨h2, h4⟩
  · injection hv with h1; rw [h1] at ha; cases ha
theorem SpOwn.keptB {w w' : World} {base B : Nat} {v : Value} {S : List Spd} (h : SpOwn w base v S) (hb : Below B w w') (hB : w.heap.size ≤ B) : SpOwn w' base v S := by
  obtain ⟨h1, h2⟩ := h
  refine ⟨h1, ?_⟩
  rcases h2 with h2 | ⟨g, cap, cur, hv, hg, hh, r⟩
  · exact .inl h2
  · exact .inr ⟨g, cap, cur, hv, hg, (hb.block g (by have := blk_lt hh; omega)).trans hh, r⟩
theorem TabCell.keptB {w w' : World} {x B : Nat} {tm : Int} {v : Value} (h : TabCell w x tm v) (hb : Below B w w') (hB : x < B) : TabCell w' x tm v := (hb.block x hB).trans h
theorem BudCell.keptB {w w' : World} {x B : Nat} {P A : Int} {v : Value} (h : BudCell w x P A v) (hb : Below B w w') (hB : x < B) : BudCell w' x P A v := (hb.block x hB).trans h
theorem NzCell.keptB {w w' : World} {x B : Nat} {T A C : Int} (h : NzCell w x T A C) (hb : Below B w w') (hB : x < B) : NzCell w' x T A C := (hb.block x hB).trans h
theorem IntsAt.keptB {w w' : World} {B : Nat} {A : Option Addr} {L : List Int} (h : IntsAt w A L) (hb : Below B w w') (hB : w.heap.size ≤ B) : IntsAt w' A L := fun k hk => by
  obtain ⟨b, off, hA, hlt, hc⟩ := h k hk
  exact ⟨b, off, hA, Nat.lt_of_lt_of_le hlt hb.size, (hb.cell (p := ⟨b, off + k, none⟩) (Nat.lt_of_lt_of_le hlt hB)).trans hc⟩
theorem ElAt.keptB {α : Type} {E : El α} {w w' : World} {B : Nat} {A : Option Addr} {L : List α} (h : ElAt E w A L) (hb : Below B w w') (hB : w.heap.size ≤ B) : ElAt E w' A L := fun k x hk => by
  obtain ⟨b, off, hA, hlt, hc⟩ := h k x hk
  exact ⟨b, off, hA, Nat.lt_of_lt_of_le hlt hb.size, fun j hj => (hb.cell (Nat.lt_of_lt_of_le hlt hB)).trans (hc j hj)⟩
theorem usOK_any {T A B : Int} {us : List Int} : us.any (fun u => !inI u 0 (totalW T A B - 1)) = !decide (UsOK T A B us) := by
  by_cases h : UsOK T A B us
  · rw [decide_eq_true h]
    simp only [Bool.not_true, List.any_eq_false]
    intro u hu
    obtain ⟨k, hk, rfl⟩ := List.getElem_of_mem hu
    have := h k hk
    rw [nth_eq hk] at this; simp [this]
  · rw [decide_eq_false h]
    simp only [Bool.not_false, List.any_eq_true]
    have : ∃ k, k < us.length ∧ ¬ inI (nth us k) 0 (totalW T A B - 1) = true := by
      refine Classical.byContradiction fun hn => h fun k hk => ?_
      refine Classical.byContradiction fun h2 => hn ⟨k, hk, h2⟩
    obtain ⟨k, hk, h2⟩ := this
    refine ⟨us[k], List.getElem_mem hk, ?_⟩
    rw [nth_eq hk] at h2; simpa using h2
theorem enter39 (args : Array Value) (w : World) : (callFunc 56 args).run Try.prog w = .ok (.enter 56 args) w :=
  MuLone.run_callFunc_enter Try.func56 (by kernel_rfl) rfl args w
theorem Pst.tabZ {w wr : World} {T A B P Am : Int} {v : Value} {S : List Spd} (h : Pst w wr T A B P Am v S) : (wr.cell? ⟨w.heap.size + 1 + 1, 0, none⟩ = some (.int .i64 0) ∧ wr.cell? ⟨w.heap.size + 1 + 1, 1, none⟩ = some (.slice none 0 0)) ∧ (wr.frozen? ⟨w.heap.size + 1 + 1, 0, none⟩ = false ∧ wr.frozen? ⟨w.heap.size + 1 + 1, 1, none⟩ = false) ∧
    (wr.cell? ⟨w.heap.size + 1 + 1 + 1, 0, none⟩ = some (.int .i64 0) ∧ wr.cell? ⟨w.heap.size + 1 + 1 + 1, 1, none⟩ = some (.int .i64 0) ∧ wr.cell? ⟨w.heap.size + 1 + 1 + 1, 2, none⟩ = some (.slice none 0 0)) ∧ (wr.frozen? ⟨w.heap.size + 1 + 1 + 1, 0, none⟩ = false ∧ wr.frozen? ⟨w.heap.size + 1 + 1 + 1, 1, none⟩ = false ∧ wr.frozen? ⟨w.heap.size + 1 + 1 + 1, 2, none⟩ = false) :=
  ⟨⟨h.tab.c0, h.tab.c1⟩, ⟨h.tab.frozen 0, h.tab.frozen 1⟩, ⟨h.res.c0, h.res.c1, h.res.c2⟩, ⟨h.res.frozen 0, h.res.frozen 1, h.res.frozen 2⟩⟩

set_option maxRecDepth 100000 in
set_option maxHeartbeats 4000000 in
theorem publish_any (T A B P Am : Int) (Q : Option Addr) (S : List Spd) (cq : Nat) (tm : Int) (C : Option Addr) (L : List Spd) (c : Nat) (X : Option Addr) (ds : List Int) (cx : Nat) (Y : Option Addr) (us : List Int) (cy : Nat) (w : World)
    (hS : SpAt w Q S) (hQ : ∀ a, Q = some a → a.spot = none ∨ S.length = 0) (hN : Q = none → S.length = 0 ∧ cq = 0) (hl : S.length ≤ 100000) (hL : ElAt elC w C L) (ll : L.length ≤ 100000) (hX : IntsAt w X ds) (lx : ds.length ≤ 1000000) (hY : IntsAt w Y us) (ly : us.length ≤ 1000000) :
    Calls Try.prog 26 #[nz T A B, .agg #[.int .i64 P, .int .i64 Am, .slice Q S.length cq], .int .i64 tm, .slice C L.length c, .slice X ds.length cx, .slice Y us.length cy] w (PubQ T A B P Am S tm L ds us w) := by
  have HS := Lib.hid hS
  have HL := Lib.hid hL
  have HX := Lib.hid hX
  have HY := Lib.hid hY
  clear hS hL hX hY
  go_enter Try.func26, Try.ntmps26
  go_wp2_with fail
  refine (clone_any Q S cq _ ((((HS.out.alloc _).alloc _).alloc _).alloc _) hQ hN hl).mono ?_
  rintro e w1 ⟨v, rfl, hown, hb⟩
  obtain ⟨C1, c1, rfl, -, -, -⟩ := hown.at_
  obtain ⟨⟨hn, hx, ht2, hr⟩, hSt, -⟩ := Pst.start hb hown
  have f2 := hx.frozen 2
  have n0 := hn.c0
  have n1 := hn.c1
  have n2 := hn.c2
  have x0 := hx.c0
  have x1 := hx.c1
  have x2 := hx.c2
  have lw1 := hb.size
  have HLw := Lib.hid (HL.out.below ((pub0_below w T A B P Am (.slice Q S.length cq)).trans (hb.mono (by simp; omega))))
  clear hn hx ht2 hr hb hown HS hQ hN
  go_wp2_with fail
  obtain ⟨w2, hw2⟩ : ∃ w2, w2 = w1.setCell ⟨w.heap.size + 1, 2, none⟩ (.slice C1 S.length c1) := ⟨_, rfl⟩
  rw [← hw2] at hSt ⊢
  have lw2 : w2.heap.size = w1.heap.size := by rw [hw2]; simp [World.setCell]
  simp at lw1
  have hbw2 : Below w.heap.size w w2 := hSt.below
  clear hw2 x0 x1 x2 f2 HLw n0 n1 n2
  have HL2 := Lib.hid (HL.out.below hbw2)
  have HX2 := Lib.hid (HX.out.below hbw2)
  have HY2 := Lib.hid (HY.out.below hbw2)
  clear HL HX HY hbw2
  have n0 := hSt.nz.c0
  have n1 := hSt.nz.c1
  have n2 := hSt.nz.c2
  have HST := Lib.hid hSt
  clear hSt
  by_cases hG : Good T A B
  case neg =>
    have HE := Lib.hid (pbE_noise (P := P) (Am := Am) (S := S) (tm := tm) (ds := ds) (us := us) hG)
    have HCK := Lib.hid (checkN_bad hG)
    clear hG
    refine (ncheck_any T A B _).mono ?_
    rintro e w3 ⟨rfl, hb3⟩
    rw [HCK.out]
    have hSt := HST.out.later hb3
    have x0 := hSt.box.c0
    have x1 := hSt.box.c1
    have x2 := hSt.box.c2
    obtain ⟨⟨y0, y1⟩, ⟨f0, f1⟩, ⟨z0, z1, z2⟩, ⟨g0, g1, g2⟩⟩ := hSt.tabZ
    have hs := hSt.size
    have HST := Lib.hid hSt
    clear hSt hb3 n0 n1 n2
    go_wp2_with fail
    go_region
    go_wp2_with fail
    exact HST.out.ret rfl rfl rfl rfl rfl (fun e W hW => PubQ.err HE.out (by decide) hW)
  case pos =>
  have HG := Lib.hid hG
  have HCK := Lib.hid (checkN_ok hG)
  have HTOT := Lib.hid (WOK.of hG (c := 0) (by have := hG.1; omega)).tot
  refine (ncheck_any T A B _).mono ?_
  rintro e w3 ⟨rfl, hb3⟩
  rw [HCK.out]
  have hSt := HST.out.later hb3
  have HL3 := Lib.hid (HL2.out.below hb3)
  have HX3 := Lib.hid (HX2.out.below hb3)
  have HY3 := Lib.hid (HY2.out.below hb3)
  have x0 := hSt.box.c0
  have x1 := hSt.box.c1
  have x2 := hSt.box.c2
  obtain ⟨⟨y0, y1⟩, ⟨f0, f1⟩, ⟨z0, z1, z2⟩, ⟨g0, g1, g2⟩⟩ := hSt.tabZ
  have hs := hSt.size
  have HST := Lib.hid hSt
  clear hSt hb3 n0 n1 n2
  clear HL2 HX2 HY2 HCK hG lw1 lw2
  cases hrw : rowsB ds with
  | false =>
    have HE := Lib.hid (pbE_range (P := P) (Am := Am) (S := S) (tm := tm) (ds := ds) (us := us) HG.out (fun h => by have := decide_eq_true h.1; change rowsB ds = true at this; rw [hrw] at this; cases this))
    have HRW := Lib.hid hrw
    clear hrw
    go_wp2_with fail
    refine ret_pure (rows_any X ds cx _ HX3.out (by omega)) ?_
    rw [HRW.out]
    go_wp2_with fail
    go_region
    go_wp2_with fail
    exact HST.out.ret rfl rfl rfl rfl rfl (fun e W hW => PubQ.err HE.out (by decide) hW)
  | true =>
    have HRW := Lib.hid hrw
    have HRO := Lib.hid (show RowsOK ds from of_decide_eq_true hrw)
    clear hrw
    by_cases hlen : us.length = ds.length
    case neg =>
      have HE := Lib.hid (pbE_range (P := P) (Am := Am) (S := S) (tm := tm) (ds := ds) (us := us) HG.out (fun h => hlen h.2.1))
      have heq : ((us.length : Int) != (ds.length : Int)) = true := by simp; omega
      clear hlen
      go_wp2_with fail
      refine ret_pure (rows_any X ds cx _ HX3.out (by omega)) ?_
      rw [HRW.out]
      go_wp2_with fail
      go_region
      go_wp2_with fail
      exact HST.out.ret rfl rfl rfl rfl rfl (fun e W hW => PubQ.err HE.out (by decide) hW)
    case pos =>
      have HLEN := Lib.hid hlen
      have hlen1 : us.length ≤ ds.length := by omega
      have hlen2 : ds.length ≤ us.length := by omega
      have heq : ((us.length : Int) != (ds.length : Int)) = false := by simp [hlen]
      have HCO := Lib.hid (containsInts_any 56 #[.pointer (some ⟨w.heap.size, 0, none⟩)] (fun u => !inI u 0 (totalW T A B - 1)) Y us cy w3 HY3.out (by omega) enter39
        (fun w' hb k hk => odd39_any w.heap.size T A B (nth us k) w' (HST.out.nz.below hb) HG.out HTOT.out))
      clear hlen
      by_cases hu : UsOK T A B us
      case neg =>
        have HE := Lib.hid (pbE_range (P := P) (Am := Am) (S := S) (tm := tm) (ds := ds) (us := us) HG.out (fun h => hu h.2.2))
        have HAN := Lib.hid (show us.any (fun u => !inI u 0 (totalW T A B - 1)) = true by rw [usOK_any, decide_eq_false hu]; rfl)
        clear hu
        go_wp2_with fail
        refine ret_pure (rows_any X ds cx _ HX3.out (by omega)) ?_
        rw [HRW.out]
        go_wp2_with fail
        clear x0 x1 x2 y0 y1 f0 f1 z0 z1 z2 g0 g1 g2 hs
        refine ret_below HCO.out fun w4 hb4 => ?_
        rw [HAN.out]
        have hSt := HST.out.later hb4
        have x0 := hSt.box.c0
        have x1 := hSt.box.c1
        have x2 := hSt.box.c2
        obtain ⟨⟨y0, y1⟩, ⟨f0, f1⟩, ⟨z0, z1, z2⟩, ⟨g0, g1, g2⟩⟩ := hSt.tabZ
        have hs := hSt.size
        have HST := Lib.hid hSt
        clear hSt
        go_wp2_with fail
        go_region
        go_wp2_with fail
        exact HST.out.ret rfl rfl rfl rfl rfl (fun e W hW => PubQ.err HE.out (by decide) hW)
      case pos =>
        have HU := Lib.hid hu
        have HPE := Lib.hid (pbE_spend (P := P) (Am := Am) (S := S) (tm := tm) (ds := ds) (us := us) HG.out ⟨HRO.out, HLEN.out, hu⟩)
        have HAN := Lib.hid (show us.any (fun u => !inI u 0 (totalW T A B - 1)) = false by rw [usOK_any, decide_eq_true hu]; rfl)
        clear hu
        go_wp2_with fail
        refine ret_pure (rows_any X ds cx _ HX3.out (by omega)) ?_
        rw [HRW.out]
        go_wp2_with fail
        clear x0 x1 x2 y0 y1 f0 f1 z0 z1 z2 g0 g1 g2 hs
        refine ret_below HCO.out fun w4 hb4 => ?_
        rw [HAN.out]
        have hSt := HST.out.later hb4
        have HL4 := Lib.hid (HL3.out.below hb4)
        have HX4 := Lib.hid (HX3.out.below hb4)
        have HY4 := Lib.hid (HY3.out.below hb4)
        have x0 := hSt.box.c0
        have x1 := hSt.box.c1
        have x2 := hSt.box.c2
        have HST := Lib.hid hSt
        clear hSt hb4 HL3 HX3 HY3 HCO HAN HRW
        go_wp2_with fail
        clear x0 x1 x2
        obtain ⟨C9, c9, ec, hC, -, -⟩ := HST.out.own.at_
        injection ec with ec1 ec2 ec3
        subst ec1; subst ec3
        have HSP := Lib.hid (spend_all P Am C1 S c1 tm 1 _ hC HST.out.own.spotE HST.out.own.nilcapE hl)
        clear hC ec2
        refine HSP.out.mono ?_
        rintro e w5 ⟨v5, rfl, hown5, hb5⟩
        have hSt := HST.out.later hb5
        have HL5 := Lib.hid (HL4.out.below hb5)
        have HX5 := Lib.hid (HX4.out.below hb5)
        have HY5 := Lib.hid (HY4.out.below hb5)
        have h45 := HST.out.size
        replace hown5 := hown5.mono h45
        obtain ⟨C5, c5, rfl, -, -, -⟩ := hown5.at_
        have HO5 := Lib.hid hown5
        clear hown5 hb5 HSP HL4 HX4 HY4 HST
        by_cases he : spE P Am S tm 1 = 0
        case neg =>
          have HE := Lib.hid (fun e W hW => PubQ.err (L := L) (w := w) (e := e) (w' := W) HPE.out he hW)
          have hne : (spE P Am S tm 1 != 0) = true := by simp [he]
          generalize spE P Am S tm 1 = ee at *
          have HST := Lib.hid hSt
          clear hSt he
          go_wp2_with fail
          have hSt := HST.out.later (below_alloc w5 (.cells #[.int .i64 P, .int .i64 Am, .slice C5 (spS P Am S tm 1).length c5] 24))
          have x0 := hSt.box.c0
          have x1 := hSt.box.c1
          have x2 := hSt.box.c2
          obtain ⟨⟨y0, y1⟩, ⟨f0, f1⟩, ⟨z0, z1, z2⟩, ⟨g0, g1, g2⟩⟩ := hSt.tabZ
          have hs := hSt.size
          have HST := Lib.hid hSt
          clear hSt
          go_region
          go_wp2_with fail
          exact HST.out.ret rfl rfl rfl rfl rfl (fun e W hW => HE.out e W hW)
        case pos =>
          have hsl : spS P Am S tm 1 = S ++ [(tm, 1)] := by unfold spS; rw [if_pos he]
          rw [hsl] at HO5 ⊢
          have HE := Lib.hid (fun e W h => PubQ.ok (L := L) (w := w) (e := e) (w' := W) (HPE.out.trans he) h)
          rw [he]
          clear he hsl HPE
          rw [show (S ++ [(tm, (1 : Int))]).length = S.length + 1 by simp] at HO5 ⊢
          have hs := hSt.size
          have HST := Lib.hid hSt
          clear hSt
          go_wp2_with fail
          refine gen_world fun w6 hw6 => ?_
          have hb6 : Below w5.heap.size w5 w6 := by rw [hw6]; exact (below_alloc _ _).alloc (by simp) _
          have hB : BudCell w6 w5.heap.size P Am (.slice C5 (S.length + 1) c5) := by rw [hw6]; exact (BudCell.new _ _ _ rfl).alloc _
          have hT : TabCell w6 (w5.heap.size + 1) tm (.slice none 0 0) := by rw [hw6]; exact TabCell.new _ _ (by simp)
          have s6 : w6.heap.size = w5.heap.size + 2 := by rw [hw6]; simp
          have HB6 := Lib.hid hB
          have HT6 := Lib.hid hT
          clear hw6 hB hT
          go_wp2_with fail
          go_loopw [65] (fun i wr => ∃ (k : Nat) (u : Value), i = .int .i64 k ∧ k ≤ ds.length ∧ TabCell wr (w5.heap.size + 1) tm u ∧ ElOwn elL 74 wr (w5.heap.size + 2) u (lnK T A B L ds us k) ∧ Below (w5.heap.size + 1) w6 wr) (fun i _ => ds.length - (intOf i).toNat)
          case atStart => exact ⟨0, _, rfl, Nat.zero_le _, HT6.out, ElOwn.nil _ _ _ _, Below.refl _ _⟩
          case round =>
            obtain ⟨k, u, rfl, hk, hT, hown, hbr⟩ := hrel
            have hb5r : Below w5.heap.size w5 wr := hb6.trans (hbr.mono (by omega))
            have hrs := hbr.size
            have hSt := HST.out.later hb5r
            have n0 := hSt.nz.c0
            have n1 := hSt.nz.c1
            have n2 := hSt.nz.c2
            have lN := hSt.nz.lt
            have t0 := hT.c0
            have t1 := hT.c1
            have lT := hT.lt
            obtain ⟨U, uc, eu, -, -, -, -, -⟩ := hown.at_
            rw [lnK_len] at eu
            subst eu
            have HT := Lib.hid hT
            have HOW := Lib.hid hown
            have HSR := Lib.hid hSt
            clear hT hown hSt
            by_cases hlt : k < ds.length
            · obtain ⟨b, off, rfl, hbl, hcell⟩ := (HX5.out.below hb5r) k hlt
              obtain ⟨b', off', rfl, hbl', hcell'⟩ := (HY5.out.below hb5r) k (by omega)
              have HLS := Lib.hid (lnK_succ T A B L ds us k)
              have HLR := Lib.hid (HL5.out.below hb5r)
              have hk0 : (0 : Int) ≤ (k : Int) := by omega
              have hkl : (k : Int) < (ds.length : Int) := by omega
              have hku : (k : Int) < (us.length : Int) := by omega
              generalize nth ds k = dd at *
              generalize nth us k = uu at *
              go_wp2_with fail
              refine wp_region_grew (by kernel_rfl) (by kernel_rfl) ?_
              repeat (go_big_quiet_step ((first
                | (go_at_call 61; exact grew_of (clamped_any T A B C L c dd _ (HLR.out.below (grewW.below _ _)) ll))
                | (go_at_call 60; exact grew_of (draw_any T A B _ uu _)))))
              refine wpQuiet_nil ?_
              intro w7 hb7
              generalize drawV T A B (clC T L dd) uu = zz at *
              generalize drawE T A B (clC T L dd) uu = ee at *
              have hs7 := hb7.size
              have HT7 := Lib.hid (HT.out.below hb7)
              have HOW7 := Lib.hid (HOW.out.below hb7)
              clear n0 n1 n2 t0 t1 hcell hcell' HT HOW HLR HSR
              have t0 := HT7.out.c0
              have t1 := HT7.out.c1
              go_wp2_with (at_builtin; refine app_el elL Try.underlying50 info_line rfl rfl (.tmp 84) (.tmp 88) rfl (base := w5.heap.size + 2) (dd, zz) rfl rfl HOW7.out rfl (by rw [lnK_len]; omega) (by decide) (by omega) ?_; intro v8 w8 hown8 hg8 hb8; rw [← HLS.out] at hown8; obtain ⟨U8, uc8, eu8, -, -, -, -, -⟩ := hown8.at_; rw [lnK_len] at eu8; subst eu8; have hT8 := HT7.out.keptB hb8 (by omega); have q0 := hT8.c0; have q1 := hT8.c1; have q2 := hT8.frozen 1; have HT8 := Lib.hid hT8; have HOW8 := Lib.hid hown8; have lT8 := hT8.lt; clear hT8 hown8 hg8 t0 t1)
              go_roundw
              case rel => exact ⟨k + 1, _, by go_num, by omega, HT8.out.set1 _, HOW8.out.set_ _ _ (by simp), below_set ((hbr.trans (hb7.mono (by omega))).trans (hb8.mono (by omega))) _ _ (by simp)⟩
              case measure => simp [intOf]; omega
            · have HK := Lib.hid (show k = ds.length by omega)
              have HB := Lib.hid (HB6.out.keptB hbr (by omega))
              have m0 := HB.out.c0
              have m1 := HB.out.c1
              have m2 := HB.out.c2
              obtain ⟨⟨y0, y1⟩, ⟨f0, f1⟩, ⟨z0, z1, z2⟩, ⟨g0, g1, g2⟩⟩ := HSR.out.tabZ
              have hs3 := HSR.out.size
              have HOWR := Lib.hid ((HO5.out.below hb5r))
              have HOWS := Lib.hid (HOW.out.mono (show w.heap.size + 4 ≤ w5.heap.size + 2 by omega))
              clear n0 n1 n2 HOW
              go_wp2_with fail
              go_region
              go_wp2_with fail
              refine pub_ret (w := w) (wr := wr) (u := .slice U k uc) (v := .slice C5 (S.length + 1) c5) (Ls := lnK T A B L ds us k) (S := S ++ [(tm, 1)]) (E := 0) rfl tm P Am HSR.out.tab HSR.out.res ?_ HOWR.out HSR.out.below ?_ ?_ ?_ ?_ ?_
              · exact HOWS.out
              · rfl
              · rfl
              · rfl
              · rfl
              · exact fun e W hW => HE.out e W (by rw [← HK.out]; exact hW)

end Go.Proofs.Ytmnkgfimdlhhiaa
