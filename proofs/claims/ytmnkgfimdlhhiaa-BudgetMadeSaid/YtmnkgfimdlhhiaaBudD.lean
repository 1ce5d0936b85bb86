/-
  Budgets: the program's Check, by a map of what each period spent.
-/
import Derived.Test.YtmnkgfimdlhhiaaBudC
import Derived.StillTailTactics
import Derived.Maps.RangeWalk
import Derived.Maps.Ext
import Derived.Maps.OwnOps
namespace Go.Proofs.Ytmnkgfimdlhhiaa
open Go.RowKit Go.Maps

theorem lawI : Keyed Try.prog 3 := int_keyed Try.underlying3
theorem zeroI (w : World) : (zeroValue 3).run Try.prog w = .ok (.int .i64 0) w := by kernel_rfl
abbrev iv {H : Type} (n : Int) : DataW H := .lit (.int .i64 n)
theorem wf_i64 {n : Int} (h1 : -9223372036854775808 ≤ n) (h2 : n ≤ 9223372036854775807) : (Lit.int .i64 n).wf = true := by
  rw [← IntWalk.wrap64_in n ⟨h1, h2⟩]; exact wrap64_wf n
theorem sumK_range2 {S : List Spd} (T : Spd → Bool) : ∀ k, (∀ j, j < k → 1 ≤ cS S j ∧ cS S j ≤ 1073741824) → 0 ≤ sumK T S k ∧ sumK T S k ≤ 1073741824 * k
  | 0, _ => by simp [sumK]
  | k + 1, h => by
    have ih := sumK_range2 T k (fun j hj => h j (by omega))
    obtain ⟨c1, c2⟩ := h k (by omega)
    rw [sumK_succ]
    have : 0 ≤ addT T (S.getD k (0, 0)) ∧ addT T (S.getD k (0, 0)) ≤ 1073741824 := by
      unfold addT; split
      · exact ⟨by unfold cS at c1; omega, c2⟩
      · omega
    push_cast; omega
def perQ (P q : Int) (x : Spd) : Bool := decide (x.1 / P = q)
theorem perQ_eq (P time : Int) : perQ P (time / P) = perT P time := rfl
/-- The map after k rows. -/
structure Sums {H : Type} (P : Int) (S : List Spd) (k : Nat) (D : DataW H) : Prop where
  map : IsMap D
  at_ : ∀ q, D.atKey (.int .i64 q) (iv 0) = iv (sumK (perQ P q) S k)
  from_ : ∀ kl, has D kl = true → ∃ j, j < k ∧ kl = .int .i64 (tS S j / P)
  to_ : ∀ j, j < k → has D (.int .i64 (tS S j / P)) = true
theorem Sums.start {H : Type} (P : Int) (S : List Spd) : Sums (H := H) P S 0 (.map []) :=
  ⟨isMap_empty, fun _ => rfl, fun kl h => (by cases h), fun j hj => absurd hj (by omega)⟩
theorem Sums.step {H : Type} {P : Int} {S : List Spd} {k : Nat} {D : DataW H} (h : Sums P S k D) {c : Int} (hc : D.atKey (.int .i64 (tS S k / P)) (iv 0) = iv c) : Sums P S (k + 1) (D.put (.int .i64 (tS S k / P)) (iv (c + cS S k))) := by
  have hce : c = sumK (perQ P (tS S k / P)) S k := by
    rw [h.at_] at hc; injection hc with hc; injection hc with _ hc; exact hc.symm
  refine ⟨h.map.put _ _, fun q => ?_, fun kl hk => ?_, fun j hj => ?_⟩
  · by_cases hq : q = tS S k / P
    · subst hq
      rw [atKey_put_same h.map (show WideAt.IsKeyLit (.int .i64 _) from True.intro), sumK_succ, addT_yes (by show decide _ = true; exact decide_eq_true rfl), hce]; rfl
    · rw [atKey_put_other (fun e => hq (by injection e)), h.at_, sumK_succ, addT_no (by show decide _ = false; exact decide_eq_false (fun e => hq e.symm)), Int.add_zero]
  · by_cases hq : kl = .int .i64 (tS S k / P)
    · exact ⟨k, by omega, hq⟩
    · rw [has_put_other hq] at hk
      obtain ⟨j, h1, h2⟩ := h.from_ kl hk
      exact ⟨j, by omega, h2⟩
  · by_cases hq : (Lit.int .i64 (tS S j / P)) = .int .i64 (tS S k / P)
    · rw [hq]; exact has_put_same h.map (show WideAt.IsKeyLit (.int .i64 _) from True.intro) _
    · rw [has_put_other hq]
      rcases Nat.lt_or_ge j k with h1 | h1
      · exact h.to_ j h1
      · exact absurd (by rw [show j = k by omega]) hq

/-- The loop over the map, under way. -/
def RRel (P A : Int) (S : List Spd) (v : Value) (D : DataW Unit) (w : World) (rb : Nat) (wr : World) : Prop :=
  ∃ (left : Lit → Bool) (cnt : Nat), wr.ranges Try.prog 3 (plainElem Try.prog 3) (w.heap.size + 1) rb S.length D left cnt ∧ (∀ q, has D (.int .i64 q) = true → left (.int .i64 q) = false → sumK (perQ P q) S S.length ≤ A) ∧ BudCell wr w.heap.size P A v ∧ Below w.heap.size w wr

set_option maxRecDepth 100000 in
set_option maxHeartbeats 4000000 in
theorem check_any (P A : Int) (B : Option Addr) (S : List Spd) (cap : Nat) (w : World) (hS : SpAt w B S) (hl : S.length ≤ 100000) :
    Calls Try.prog 21 #[.agg #[.int .i64 P, .int .i64 A, .slice B S.length cap]] w (RetB (.int .i64 (budE P A S)) w) := by
  have HS := Lib.hid hS
  clear hS
  have hmm := @run_makeMap Try.prog
  by_cases g1 : 1 ≤ P ∧ P ≤ 1099511627776
  case neg =>
    have HV := Lib.hid (budE_head (P := P) (A := A) (S := S) (fun h => g1 ⟨h.1, h.2.1⟩))
    have HG := Lib.hid g1
    clear g1
    go_enter Try.func21, Try.ntmps21
    go_wp2_with fail
    refine ret_pure (in_no P 1 1099511627776 HG.out _) ?_
    go_wp2
    go_ret
    exact RetB.int HV.out (below_alloc _ _)
  case pos =>
  by_cases g2 : 0 ≤ A ∧ A ≤ 1073741824
  case neg =>
    have HV := Lib.hid (budE_head (P := P) (A := A) (S := S) (fun h => g2 ⟨h.2.2.1, h.2.2.2.1⟩))
    have HG := Lib.hid g2
    have HG1 := Lib.hid g1
    clear g2 g1
    go_enter Try.func21, Try.ntmps21
    go_wp2_with fail
    refine ret_pure (in_yes P 1 1099511627776 HG1.out _) ?_
    go_wp2_with fail
    refine ret_pure (in_no A 0 1073741824 HG.out _) ?_
    go_wp2
    go_ret
    exact RetB.int HV.out (below_alloc _ _)
  case pos =>
  have HG1 := Lib.hid g1
  have HG2 := Lib.hid g2
  by_cases g5 : 256 < (S.length : Int)
  · have HV := Lib.hid (budE_head (P := P) (A := A) (S := S) (fun h => by have := h.2.2.2.2; omega))
    clear g1 g2
    go_enter Try.func21, Try.ntmps21
    go_wp2_with fail
    refine ret_pure (in_yes P 1 1099511627776 HG1.out _) ?_
    go_wp2_with fail
    refine ret_pure (in_yes A 0 1073741824 HG2.out _) ?_
    go_wp2
    go_ret
    exact RetB.int HV.out (below_alloc _ _)
  · have HH := Lib.hid (show HeadOK P A S from ⟨g1.1, g1.2, g2.1, g2.2, by omega⟩)
    obtain ⟨p1, p2⟩ := g1
    obtain ⟨a1, a2⟩ := g2
    go_enter Try.func21, Try.ntmps21
    go_wp2_with fail
    refine ret_pure (in_yes P 1 1099511627776 HG1.out _) ?_
    go_wp2_with fail
    refine ret_pure (in_yes A 0 1073741824 HG2.out _) ?_
    go_wp2_with fail
    refine gen_world fun w1 hw1 => ?_
    have hb : Below w.heap.size w w1 := by rw [hw1]; exact (below_alloc _ _).alloc (by simp) _
    have HX1 : BudCell w1 w.heap.size P A (.slice B S.length cap) := by rw [hw1]; exact (BudCell.new _ _ _ rfl).alloc _
    have HM1 : w1.ownsMap (H := Unit) Try.prog 3 (plainElem Try.prog 3) (w.heap.size + 1) 0 (.map []) := by
      rw [hw1, show w.heap.size + 1 = (w.alloc (.cells #[.int .i64 P, .int .i64 A, .slice B S.length cap] 24)).heap.size by simp]; exact World.ownsMap_made _ _ _ _
    clear hw1
    go_loopw [28] (fun i wr => ∃ (k : Nat) (D : DataW Unit), k ≤ S.length ∧ i = .int .i64 k ∧ (∀ j, j < k → RowOK S j) ∧ Sums P S k D ∧ wr.ownsMap Try.prog 3 (plainElem Try.prog 3) (w.heap.size + 1) k D ∧ BudCell wr w.heap.size P A (.slice B S.length cap) ∧ Below w.heap.size w wr) (fun i _ => S.length - (intOf i).toNat)
    case atStart => exact ⟨0, .map [], Nat.zero_le _, rfl, fun j hj => absurd hj (by omega), Sums.start P S, HM1, HX1, hb⟩
    case round =>
      obtain ⟨k, D, hk, rfl, hpre, hsum, hown, hX, hbr⟩ := hrel
      clear HX1 HM1 hb
      have HP := Lib.hid hpre
      have HSUM := Lib.hid hsum
      have hml := hown.lt
      have HOWN := Lib.hid hown
      clear hpre hsum hown
      have hx0 := hX.c0
      have hx1 := hX.c1
      have hx2 := hX.c2
      have hs1 : w.heap.size < wr.heap.size := blk_lt hX
      have HX := Lib.hid hX
      clear hX
      by_cases hlt : k < S.length
      · have hS2 := HS.out.below hbr
        obtain ⟨b, off, rfl, hbl, c1, c2⟩ := hS2 k hlt
        have hbl0 : b < w.heap.size := by
          obtain ⟨b', off', e, hh, _, _⟩ := HS.out k hlt
          injection e with e
          injection e with e1 e2
          subst e1; exact hh
        have hprev : 0 < k → wr.cell? ⟨b, off + (k - 1) * 2, none⟩ = some (.int .i64 (tS S (k - 1))) := fun h => by
          obtain ⟨b', off', e, _, c1', _⟩ := hS2 (k - 1) (by omega)
          injection e with e
          injection e with e1 e2
          subst e1; subst e2; exact c1'
        clear hS2
        go_wp2_with fail
        refine gen_world fun w2 hw2 => ?_
        have hb2 : Below wr.heap.size wr w2 := by rw [hw2]; exact below_alloc _ _
        obtain ⟨e0, e1⟩ : w2.cell? ⟨wr.heap.size, 0, none⟩ = some (.int .i64 (tS S k)) ∧ w2.cell? ⟨wr.heap.size, 1, none⟩ = some (.int .i64 (cS S k)) := by rw [hw2]; exact pair_cells _ _ _
        have hprev2 : 0 < k → w2.cell? ⟨b, off + (k - 1) * 2, none⟩ = some (.int .i64 (tS S (k - 1))) := fun h => (hb2.cell (p := ⟨b, off + (k - 1) * 2, none⟩) hbl).trans (hprev h)
        have HX2 := Lib.hid (HX.out.below hb2)
        have HO2 := Lib.hid (show w2.ownsMap Try.prog 3 (plainElem Try.prog 3) (w.heap.size + 1) k D by rw [hw2]; exact HOWN.out.alloc _)
        have y0 := HX2.out.c0
        have y2 := HX2.out.c2
        have hbb : Below w.heap.size w w2 := hbr.trans (hb2.mono (by omega))
        clear hprev hw2 hx0 hx1 hx2 c1 c2 HX HOWN
        have HBR := Lib.hid (fun h => budE_row (P := P) (A := A) hlt h)
        have HRO := Lib.hid (fun h1 h2 h3 h4 h5 => (show RowOK S k from ⟨h1, h2, h3, h4, h5⟩))
        have HHP := Lib.hid hprev2
        clear hprev2
        by_cases t1 : 0 ≤ tS S k ∧ tS S k ≤ 1099511627776
        · have i1 : inI (tS S k) 0 1099511627776 = true := decide_eq_true t1
          rcases k with _ | j
          · skip
            by_cases c1 : 1 ≤ cS S 0 ∧ cS S 0 ≤ 1073741824
            · have i3 : inI (cS S 0) 1 1073741824 = true := decide_eq_true c1
              have HV := Lib.hid (HRO.out (by omega) (by omega) (fun h => absurd h (by omega)) (by omega) (by omega))
              clear HBR HRO HHP
              go_quiet ((go_at_call 49; exact Calls.quiet_of_same (in_any _ _ _ _)))
              go_wp2_with fail
              refine gen_world fun w3 hw3 => ?_
              have HO3 : w3.drew.ownsMap Try.prog 3 (plainElem Try.prog 3) (w.heap.size + 1) 0 D := by rw [hw3]; exact HO2.out
              have f0 : w3.cell? ⟨wr.heap.size, 0, none⟩ = some (.int .i64 (tS S 0)) := by rw [hw3]; exact e0
              have f1 : w3.cell? ⟨wr.heap.size, 1, none⟩ = some (.int .i64 (cS S 0)) := by rw [hw3]; exact e1
              have HX3 := Lib.hid (show BudCell w3 w.heap.size P A (.slice (some ⟨b, off, none⟩) S.length cap) by rw [hw3]; exact HX2.out)
              have f2 : w3.cell? ⟨w.heap.size, 0, none⟩ = some (.int .i64 P) := HX3.out.c0
              have hb3 : Below w.heap.size w w3 := by rw [hw3]; exact below_drewN hbb _
              have hs3 := hb3.size
              clear hw3 e0 e1 y0 y2 HX2 HO2 hbb
              have q1 : (tS S 0).tdiv P = tS S 0 / P := Int.tdiv_eq_ediv_of_nonneg t1.1
              have z1 : ¬ P = 0 := by omega
              have z2 : (P == 0) = false := by simp; omega
              have b1 := Int.ediv_nonneg t1.1 (show 0 ≤ P by omega)
              have b2 := Int.ediv_le_self P t1.1
              have v1 : IntKind.i64.wrap (tS S 0 / P) = tS S 0 / P := IntWalk.i64_in _ (by omega)
              have hkey : keyOf Try.prog 3 (.int .i64 (tS S 0 / P)) = some (.int .i64 (tS S 0 / P)) := keyOf_int_mk Try.underlying3 (wf_i64 (by omega) (by omega))
              obtain ⟨c, hrun, hat, -⟩ := HO3.lookup_int lawI Try.underlying87 Try.underlying3 (zeroI _) hkey
              have hc := hat
              rw [HSUM.out.at_] at hc
              injection hc with hc
              injection hc with _ hc
              have hcr := sumK_range2 (S := S) (perQ P (tS S 0 / P)) 0 (fun j hj => by have := (HP.out j hj).2.2.2; omega)
              rw [hc] at hcr
              have v2 : IntKind.i64.wrap (c + cS S 0) = c + cS S 0 := IntWalk.i64_in _ (by omega)
              have HSUM2 := Lib.hid (HSUM.out.step hat)
              have HK := Lib.hid hkey
              have HO := Lib.hid HO3
              clear hkey hat hc HSUM HO3 hb2
              have HX4 := Lib.hid (show BudCell w3.drew w.heap.size P A (.slice (some ⟨b, off, none⟩) S.length cap) from HX3.out)
              have hb4 : Below w.heap.size w w3.drew := below_drewN hb3 1
              have hs4 : w.heap.size + 1 < w3.drew.heap.size := HO.out.lt
              have hs5 : w.heap.size + 1 < w3.heap.size := hs4
              refine wp_region_still_tail 10 (by kernel_rfl) (by kernel_rfl) ?_
              simp only [List.take_succ_cons, List.take_zero, List.drop_succ_cons, List.drop_zero]
              repeat still_step
              refine wpStill_nil ?_
              refine wpList_mapUpdate_own _ rfl _ _ _ 87 rfl 3 3 lawI Try.underlying87 _ (w.heap.size + 1) 0 D rfl HO.out (by unfold maxLen; omega) (.int .i64 (tS S 0 / P)) (.int .i64 (c + cS S 0)) _ rfl rfl HK.out (iv (c + cS S 0)) [] (plainElem_int Try.underlying3 (wf_i64 (by omega) (by omega))) ?_
              intro w5 hown5 hgrow5
              have HX5 := Lib.hid (show BudCell w5 w.heap.size P A (.slice (some ⟨b, off, none⟩) S.length cap) from (hgrow5.block w.heap.size (show w.heap.size < w3.drew.heap.size by omega) (by intro e; injection e with e; omega)).trans HX4.out)
              have HO5 := Lib.hid hown5
              have hb5 : Below w.heap.size w w5 := hb4.grown hgrow5 hb4.size (fun j hj => by injection hj with hj; omega)
              clear hown5 hgrow5 hb4 HX4 HO HK hrun f0 f1 f2
              go_wp2_with fail
              go_roundw
              case rel =>
                refine ⟨0 + 1, _, by omega, by go_num, fun j' hj' => ?_, HSUM2.out, HO5.out, HX5.out, hb5⟩
                by_cases hjk : j' = 0
                · subst hjk; exact HV.out
                · exact HP.out j' (by omega)
              case measure => simp [intOf]; omega
            · have i3 : inI (cS S 0) 1 1073741824 = false := decide_eq_false c1
              have HV := Lib.hid (HBR.out (fun h => by exact c1 ⟨h.2.2.2.1, h.2.2.2.2⟩))
              clear HBR HRO HHP
              go_quiet ((go_at_call 49; exact Calls.quiet_of_same (in_any _ _ _ _)))
              go_wp2
              go_ret
              exact RetB.int HV.out (below_drewN hbb _)
          · have hp := HHP.out (by omega)
            rw [show j + 1 - 1 = j by omega] at hp
            by_cases t3 : tS S (j + 1) < tS S j
            · skip
              have HV := Lib.hid (HBR.out (fun h => by have := h.2.2.1 (by omega); rw [show j + 1 - 1 = j by omega] at this; omega))
              clear HBR HRO HHP
              go_quiet ((go_at_call 49; exact Calls.quiet_of_same (in_any _ _ _ _)))
              go_wp2
              go_ret
              exact RetB.int HV.out (below_drewN hbb _)
            · skip
              by_cases c1 : 1 ≤ cS S (j + 1) ∧ cS S (j + 1) ≤ 1073741824
              · have i3 : inI (cS S (j + 1)) 1 1073741824 = true := decide_eq_true c1
                have HV := Lib.hid (HRO.out (by omega) (by omega) (fun _ => by rw [show j + 1 - 1 = j by omega]; omega) (by omega) (by omega))
                clear HBR HRO HHP
                go_quiet ((go_at_call 49; exact Calls.quiet_of_same (in_any _ _ _ _)))
                go_wp2_with fail
                refine gen_world fun w3 hw3 => ?_
                have HO3 : w3.drew.ownsMap Try.prog 3 (plainElem Try.prog 3) (w.heap.size + 1) (j + 1) D := by rw [hw3]; exact HO2.out
                have f0 : w3.cell? ⟨wr.heap.size, 0, none⟩ = some (.int .i64 (tS S (j + 1))) := by rw [hw3]; exact e0
                have f1 : w3.cell? ⟨wr.heap.size, 1, none⟩ = some (.int .i64 (cS S (j + 1))) := by rw [hw3]; exact e1
                have HX3 := Lib.hid (show BudCell w3 w.heap.size P A (.slice (some ⟨b, off, none⟩) S.length cap) by rw [hw3]; exact HX2.out)
                have f2 : w3.cell? ⟨w.heap.size, 0, none⟩ = some (.int .i64 P) := HX3.out.c0
                have hb3 : Below w.heap.size w w3 := by rw [hw3]; exact below_drewN hbb _
                have hs3 := hb3.size
                clear hw3 e0 e1 y0 y2 HX2 HO2 hbb
                have q1 : (tS S (j + 1)).tdiv P = tS S (j + 1) / P := Int.tdiv_eq_ediv_of_nonneg t1.1
                have z1 : ¬ P = 0 := by omega
                have z2 : (P == 0) = false := by simp; omega
                have b1 := Int.ediv_nonneg t1.1 (show 0 ≤ P by omega)
                have b2 := Int.ediv_le_self P t1.1
                have v1 : IntKind.i64.wrap (tS S (j + 1) / P) = tS S (j + 1) / P := IntWalk.i64_in _ (by omega)
                have hkey : keyOf Try.prog 3 (.int .i64 (tS S (j + 1) / P)) = some (.int .i64 (tS S (j + 1) / P)) := keyOf_int_mk Try.underlying3 (wf_i64 (by omega) (by omega))
                obtain ⟨c, hrun, hat, -⟩ := HO3.lookup_int lawI Try.underlying87 Try.underlying3 (zeroI _) hkey
                have hc := hat
                rw [HSUM.out.at_] at hc
                injection hc with hc
                injection hc with _ hc
                have hcr := sumK_range2 (S := S) (perQ P (tS S (j + 1) / P)) (j + 1) (fun j hj => by have := (HP.out j hj).2.2.2; omega)
                rw [hc] at hcr
                have v2 : IntKind.i64.wrap (c + cS S (j + 1)) = c + cS S (j + 1) := IntWalk.i64_in _ (by omega)
                have HSUM2 := Lib.hid (HSUM.out.step hat)
                have HK := Lib.hid hkey
                have HO := Lib.hid HO3
                clear hkey hat hc HSUM HO3 hb2
                have HX4 := Lib.hid (show BudCell w3.drew w.heap.size P A (.slice (some ⟨b, off, none⟩) S.length cap) from HX3.out)
                have hb4 : Below w.heap.size w w3.drew := below_drewN hb3 1
                have hs4 : w.heap.size + 1 < w3.drew.heap.size := HO.out.lt
                have hs5 : w.heap.size + 1 < w3.heap.size := hs4
                refine wp_region_still_tail 10 (by kernel_rfl) (by kernel_rfl) ?_
                simp only [List.take_succ_cons, List.take_zero, List.drop_succ_cons, List.drop_zero]
                repeat still_step
                refine wpStill_nil ?_
                refine wpList_mapUpdate_own _ rfl _ _ _ 87 rfl 3 3 lawI Try.underlying87 _ (w.heap.size + 1) (j + 1) D rfl HO.out (by unfold maxLen; omega) (.int .i64 (tS S (j + 1) / P)) (.int .i64 (c + cS S (j + 1))) _ rfl rfl HK.out (iv (c + cS S (j + 1))) [] (plainElem_int Try.underlying3 (wf_i64 (by omega) (by omega))) ?_
                intro w5 hown5 hgrow5
                have HX5 := Lib.hid (show BudCell w5 w.heap.size P A (.slice (some ⟨b, off, none⟩) S.length cap) from (hgrow5.block w.heap.size (show w.heap.size < w3.drew.heap.size by omega) (by intro e; injection e with e; omega)).trans HX4.out)
                have HO5 := Lib.hid hown5
                have hb5 : Below w.heap.size w w5 := hb4.grown hgrow5 hb4.size (fun j hj => by injection hj with hj; omega)
                clear hown5 hgrow5 hb4 HX4 HO HK hrun f0 f1 f2
                go_wp2_with fail
                go_roundw
                case rel =>
                  refine ⟨(j + 1) + 1, _, by omega, by go_num, fun j' hj' => ?_, HSUM2.out, HO5.out, HX5.out, hb5⟩
                  by_cases hjk : j' = (j + 1)
                  · subst hjk; exact HV.out
                  · exact HP.out j' (by omega)
                case measure => simp [intOf]; omega
              · have i3 : inI (cS S (j + 1)) 1 1073741824 = false := decide_eq_false c1
                have HV := Lib.hid (HBR.out (fun h => by exact c1 ⟨h.2.2.2.1, h.2.2.2.2⟩))
                clear HBR HRO HHP
                go_quiet ((go_at_call 49; exact Calls.quiet_of_same (in_any _ _ _ _)))
                go_wp2
                go_ret
                exact RetB.int HV.out (below_drewN hbb _)
        · have i1 : inI (tS S k) 0 1099511627776 = false := decide_eq_false t1
          have HV := Lib.hid (HBR.out (fun h => by exact t1 ⟨h.1, h.2.1⟩))
          clear HBR HRO HHP
          go_quiet ((go_at_call 49; exact Calls.quiet_of_same (in_any _ _ _ _)))
          go_wp2
          go_ret
          exact RetB.int HV.out (below_drewN hbb _)
      · have hkl : k = S.length := by omega
        subst hkl
        go_wp2_with (first | (at_range; refine wpList_range_own _ rfl _ 87 rfl 3 3 lawI Try.underlying87 _ (w.heap.size + 1) S.length D rfl HOWN.out ?_; intro w0 hrg0 hg0 hs0) | fail)
        go_frame
        have HX0 := Lib.hid (show BudCell w0 w.heap.size P A (.slice B S.length cap) from (hg0.block w.heap.size (by omega) (by simp)).trans HX.out)
        have hb0 : Below w.heap.size w w0 := hbr.grown hg0 hbr.size (fun j hj => by cases hj)
        have HCAN := Lib.hid (HOWN.out.canon lawI)
        have hrbl : w.heap.size + 1 < wr.heap.size := HOWN.out.lt
        obtain ⟨rb, hrb⟩ : ∃ rb, rb = wr.heap.size := ⟨_, rfl⟩
        rw [← hrb] at hrg0 hs0 hrbl ⊢
        clear hrb
        clear hg0 HX HOWN hx0 hx1 hx2
        go_loopw [] (fun wr => RRel P A S (.slice B S.length cap) D w rb wr) (fun wr => wr.rangeLeft (w.heap.size + 1) rb)
        case atStart => exact ⟨_, _, hrg0, fun q h1 h2 => by (rw [h1] at h2; cases h2), HX0.out, hb0⟩
        case round =>
          obtain ⟨left, cnt, hrg, hle, hX, hbr2⟩ := hrel
          have hx1 := hX.c1
          have HX := Lib.hid hX
          have HLE := Lib.hid hle
          clear hX hle
          go_wp2_with (first | (at_next; refine wpList_next_ranges_ii _ rfl _ rfl 3 3 .i64 .i64 lawI Try.underlying3 Try.underlying3 (w.heap.size + 1) rb S.length _ _ _ rfl hrg ?_ ?_) | fail)
          · intro hc0 hl0
            have HV := Lib.hid (budE_ok (P := P) (A := A) (S := S) ⟨HH.out, fun j hj => HP.out j hj, fun j hj => HLE.out _ (HSUM.out.to_ j hj) (hl0 _)⟩)
            clear hl0 HLE
            go_wp2_with fail
            go_ret
            exact RetB.int HV.out.symm hbr2
          · intro x c w7 cnt1 hwx hwc hlx hat hrg1 hlt1 hg1 hs1' hen
            have hX7 : BudCell w7 w.heap.size P A (.slice B S.length cap) := (hg1.block w.heap.size (blk_lt HX.out) (by intro e; injection e with e; omega)).trans HX.out
            have hx7 := hX7.c1
            have HX7 := Lib.hid hX7
            have hb7 : Below w.heap.size w w7 := hbr2.grown hg1 hbr2.size (fun j hj => by injection hj with hj; omega)
            have hcs : sumK (perQ P x) S S.length = c := by
              have h1 := HSUM.out.at_ x
              rw [hat] at h1
              injection h1 with h1
              injection h1 with _ h1
              exact h1.symm
            have hhas : has D (.int .i64 x) = true := has_true_of_atKey hat
            obtain ⟨j, hj, hjx⟩ := HSUM.out.from_ _ hhas
            injection hjx with _ hjx
            have HR1 := Lib.hid hrg1
            have HL1 := Lib.hid hrg.left_eq
            have HCS := Lib.hid hcs
            clear hwx hwc hlx hat hrg hg1 hhas hX7 hx1 HX hcs hrg1
            by_cases hcA : A < c
            · have HV := Lib.hid (budE_used (P := P) (A := A) (S := S) hj (by show ¬ sumK (perQ P (tS S j / P)) S S.length ≤ A; rw [← hjx, HCS.out]; omega))
              clear hjx
              go_wp2_with fail
              go_ret
              exact RetB.int HV.out hb7
            · clear hjx
              go_wp2_with fail
              go_roundw
              case rel =>
                refine ⟨_, cnt1, HR1.out, fun q h1 h2 => ?_, HX7.out, hb7⟩
                by_cases hq : q = x
                · subst hq; rw [HCS.out]; omega
                · refine HLE.out q h1 ?_
                  rw [sameKey_ne (fun e => hq (by injection e))] at h2
                  simpa using h2
              case measure => rw [HR1.out.left_eq, HL1.out]; exact hlt1
end Go.Proofs.Ytmnkgfimdlhhiaa
