/-
  Budgets: the document's used, Left and Check.
-/
import Derived.Test.YtmnkgfimdlhhiaaBudB
namespace Go.Proofs.Ytmnkgfimdlhhiaa
open Go.RowKit

/-! ### What a good budget is -/
def RowOK (S : List Spd) (k : Nat) : Prop := 0 ≤ tS S k ∧ tS S k ≤ 1099511627776 ∧ (0 < k → tS S (k - 1) ≤ tS S k) ∧ 1 ≤ cS S k ∧ cS S k ≤ 1073741824
def HeadOK (P A : Int) (S : List Spd) : Prop := 1 ≤ P ∧ P ≤ 1099511627776 ∧ 0 ≤ A ∧ A ≤ 1073741824 ∧ S.length ≤ 256
def BudOK (P A : Int) (S : List Spd) : Prop := HeadOK P A S ∧ (∀ k, k < S.length → RowOK S k) ∧ ∀ k, k < S.length → used P S (tS S k) ≤ A
noncomputable def budE (P A : Int) (S : List Spd) : Int := @ite _ (BudOK P A S) (Classical.propDecidable _) 0 56
theorem budE_ok {P A : Int} {S : List Spd} (h : BudOK P A S) : budE P A S = 0 := @if_pos _ (Classical.propDecidable _) h _ _ _
theorem budE_bad {P A : Int} {S : List Spd} (h : ¬ BudOK P A S) : 56 = budE P A S := (@if_neg _ (Classical.propDecidable _) h _ _ _).symm
theorem budE_head {P A : Int} {S : List Spd} (h : ¬ HeadOK P A S) : 56 = budE P A S := budE_bad fun hb => h hb.1
theorem budE_row {P A : Int} {S : List Spd} {k : Nat} (hk : k < S.length) (h : ¬ RowOK S k) : 56 = budE P A S := budE_bad fun hb => h (hb.2.1 k hk)
theorem budE_used {P A : Int} {S : List Spd} {k : Nat} (hk : k < S.length) (h : ¬ used P S (tS S k) ≤ A) : 56 = budE P A S := budE_bad fun hb => h (hb.2.2 k hk)
theorem RowOK.times {S : List Spd} (h : ∀ k, k < S.length → RowOK S k) : Times S := fun k hk => ⟨(h k hk).1, (h k hk).2.1⟩
theorem RowOK.cheap {S : List Spd} (h : ∀ k, k < S.length → RowOK S k) : Cheap S := fun k hk => ⟨by have := (h k hk).2.2.2.1; omega, (h k hk).2.2.2.2⟩

/-! ### A period is a span of times -/
theorem per_span {P t time : Int} (hP : 1 ≤ P) : t / P = time / P ↔ time / P * P ≤ t ∧ t ≤ time / P * P + P - 1 := by
  rw [Int.ediv_eq_iff_of_pos (by omega)]
  constructor <;> (rintro ⟨h1, h2⟩; constructor <;> omega)
theorem sumK_congr {T T' : Spd → Bool} {S : List Spd} (h : ∀ k, k < S.length → T (S.getD k (0, 0)) = T' (S.getD k (0, 0))) : ∀ k, k ≤ S.length → sumK T S k = sumK T' S k
  | 0, _ => rfl
  | k + 1, hk => by rw [sumK_succ, sumK_succ, sumK_congr h k (by omega)]; unfold addT; rw [h k (by omega)]
theorem used_span {P time : Int} {S : List Spd} (hP : 1 ≤ P) : totV S (time / P * P) (time / P * P + P - 1) = used P S time := by
  refine sumK_congr (fun k _ => ?_) _ (Nat.le_refl _)
  show inI _ _ _ = decide _
  unfold inI
  exact decide_eq_decide.2 (per_span hP).symm

set_option maxHeartbeats 1000000 in
theorem refUsed_any (P A : Int) (B : Option Addr) (S : List Spd) (cap : Nat) (time : Int) (w : World) (hP : 1 ≤ P ∧ P ≤ 1099511627776) (hS : SpAt w B S) (hC : Cheap S) (hl : S.length ≤ 100000) (ht : 0 ≤ time ∧ time ≤ 2199023255552) :
    Calls Try.prog 71 #[.agg #[.int .i64 P, .int .i64 A, .slice B S.length cap], .int .i64 time] w (RetB (.int .i64 (used P S time)) w) := by
  have HS := Lib.hid hS
  have HC := Lib.hid hC
  have HV := Lib.hid (used_span (time := time) (S := S) hP.1)
  obtain ⟨p1, p2⟩ := hP
  obtain ⟨m1, m2⟩ := ht
  have q2 : time.tdiv P = time / P := Int.tdiv_eq_ediv_of_nonneg m1
  have z1 : ¬ P = 0 := by omega
  have z2 : (P == 0) = false := by simp; omega
  have b3 := Int.ediv_nonneg m1 (show 0 ≤ P by omega)
  have b4 := Int.ediv_le_self P m1
  have b5 : time / P * P ≤ time := Int.ediv_mul_le time (by omega)
  have b6 : 0 ≤ time / P * P := Int.mul_nonneg b3 (by omega)
  have v2 : IntKind.i64.wrap (time / P) = time / P := IntWalk.i64_in _ (by omega)
  have v3 : IntKind.i64.wrap (time / P * P) = time / P * P := IntWalk.i64_in _ (by omega)
  have v4 : IntKind.i64.wrap (time / P * P + P) = time / P * P + P := IntWalk.i64_in _ (by omega)
  have v5 : IntKind.i64.wrap (time / P * P + P - 1) = time / P * P + P - 1 := IntWalk.i64_in _ (by omega)
  clear hS hC
  go_enter Try.func71, Try.ntmps71
  go_wp2_with fail
  refine gen_world fun w1 hw1 => ?_
  have hb : Below w.heap.size w w1 := by rw [hw1]; exact below_alloc _ _
  have HX : BudCell w1 w.heap.size P A (.slice B S.length cap) := by rw [hw1]; exact BudCell.new _ _ _ rfl
  have hx0 := HX.c0
  have hx1 := HX.c1
  have hx2 := HX.c2
  have HS1 := Lib.hid (HS.out.below hb)
  clear hw1 HX HS
  go_quiet (fail)
  go_wp2_with fail
  refine ret_below (refTotal_any P A B S cap _ _ _ (HS1.out.drewN _) HC.out hl) fun w2 hb2 => ?_
  rw [HV.out]
  go_wp2
  go_ret
  exact RetB.int rfl ((below_drewN hb _).trans (hb2.mono hb.size))

set_option maxHeartbeats 1000000 in
theorem refLeft_any (P A : Int) (B : Option Addr) (S : List Spd) (cap : Nat) (time : Int) (w : World) (hP : 1 ≤ P ∧ P ≤ 1099511627776) (hA : 0 ≤ A ∧ A ≤ 1073741824) (hS : SpAt w B S) (hC : Cheap S) (hl : S.length ≤ 100000) (ht : time ≤ 2199023255552) :
    Calls Try.prog 45 #[.agg #[.int .i64 P, .int .i64 A, .slice B S.length cap], .int .i64 time] w (RetB (.int .i64 (leftV P A S time)) w) := by
  by_cases h0 : time < 0
  · have HV := Lib.hid (leftV_neg (P := P) (A := A) (S := S) h0)
    go_enter Try.func45, Try.ntmps45
    go_wp2
    go_ret
    exact RetB.int HV.out.symm (below_alloc _ _)
  · have HV := Lib.hid (leftV_pos (P := P) (A := A) (S := S) h0)
    have HS := Lib.hid hS
    have HC := Lib.hid hC
    have hr := sumK_range hC (perT P time) S.length (Nat.le_refl _)
    rw [show sumK (perT P time) S S.length = used P S time from rfl] at hr
    have hP0 := hP
    obtain ⟨p1, p2⟩ := hP
    obtain ⟨a1, a2⟩ := hA
    clear hS hC
    go_enter Try.func45, Try.ntmps45
    go_wp2_with fail
    refine gen_world fun w1 hw1 => ?_
    have hb : Below w.heap.size w w1 := by rw [hw1]; exact below_alloc _ _
    have HX : BudCell w1 w.heap.size P A (.slice B S.length cap) := by rw [hw1]; exact BudCell.new _ _ _ rfl
    have hx0 := HX.c0
    have hx1 := HX.c1
    have hx2 := HX.c2
    have HS1 := Lib.hid (HS.out.below hb)
    have hs1 : w.heap.size < w1.heap.size := blk_lt HX
    clear hw1 HX HS
    refine wp_region_grew (by kernel_rfl) (by kernel_rfl) ?_
    repeat (go_big_quiet_step ((first
      | (go_at_call 71; exact grew_of (refUsed_any P A B S cap time _ hP0 (HS1.out.below (grewW.below _ _)) HC.out hl ⟨h0, ht⟩)))))
    refine wpQuiet_nil ?_
    intro w2 hb2
    go_wp2
    go_ret
    exact RetB.int HV.out.symm (hb.trans (hb2.mono hb.size))

set_option maxRecDepth 100000 in
set_option maxHeartbeats 4000000 in
theorem refCheck_any (P A : Int) (B : Option Addr) (S : List Spd) (cap : Nat) (w : World) (hS : SpAt w B S) (hl : S.length ≤ 100000) :
    Calls Try.prog 44 #[.agg #[.int .i64 P, .int .i64 A, .slice B S.length cap]] w (RetB (.int .i64 (budE P A S)) w) := by
  have HS := Lib.hid hS
  clear hS
  by_cases g0 : P < 1
  · have HV := Lib.hid (budE_head (P := P) (A := A) (S := S) (fun h => by have := h.1; omega))
    go_enter Try.func44, Try.ntmps44
    go_wp2
    go_ret
    exact RetB.int HV.out (below_alloc _ _)
  · skip
    by_cases g1 : 1099511627776 < P
    · have HV := Lib.hid (budE_head (P := P) (A := A) (S := S) (fun h => by have := h.2.1; omega))
      go_enter Try.func44, Try.ntmps44
      go_wp2
      go_ret
      exact RetB.int HV.out (below_alloc _ _)
    · skip
      by_cases g2 : A < 0
      · have HV := Lib.hid (budE_head (P := P) (A := A) (S := S) (fun h => by have := h.2.2.1; omega))
        go_enter Try.func44, Try.ntmps44
        go_wp2
        go_ret
        exact RetB.int HV.out (below_alloc _ _)
      · skip
        by_cases g3 : 1073741824 < A
        · have HV := Lib.hid (budE_head (P := P) (A := A) (S := S) (fun h => by have := h.2.2.2.1; omega))
          go_enter Try.func44, Try.ntmps44
          go_wp2
          go_ret
          exact RetB.int HV.out (below_alloc _ _)
        · skip
          by_cases g4 : 256 < (S.length : Int)
          · have HV := Lib.hid (budE_head (P := P) (A := A) (S := S) (fun h => by have := h.2.2.2.2; omega))
            go_enter Try.func44, Try.ntmps44
            go_wp2
            go_ret
            exact RetB.int HV.out (below_alloc _ _)
          · skip
            have HH := Lib.hid (show HeadOK P A S from ⟨by omega, by omega, by omega, by omega, by omega⟩)
            go_enter Try.func44, Try.ntmps44
            go_wp2_with fail
            refine gen_world fun w1 hw1 => ?_
            have hb : Below w.heap.size w w1 := by rw [hw1]; exact below_alloc _ _
            have HX := Lib.hid (show BudCell w1 w.heap.size P A (.slice B S.length cap) by rw [hw1]; exact BudCell.new _ _ _ rfl)
            have HS1 := Lib.hid (HS.out.below hb)
            have hs1 : w.heap.size < w1.heap.size := blk_lt HX.out
            clear hw1 HS
            go_loopw [3] (fun i wr => ∃ k : Nat, k ≤ S.length ∧ i = .int .i64 k ∧ (∀ j, j < k → RowOK S j) ∧ Below w1.heap.size w1 wr) (fun i _ => S.length - (intOf i).toNat)
            case atStart => exact ⟨0, Nat.zero_le _, rfl, fun j hj => absurd hj (by omega), Below.refl _ _⟩
            case round =>
              obtain ⟨k, hk, rfl, hpre, hbr⟩ := hrel
              have HP := Lib.hid hpre
              clear hpre
              have hx0 := (HX.out.below hbr).c0
              have hx1 := (HX.out.below hbr).c1
              have hx2 := (HX.out.below hbr).c2
              have hsr := hbr.size
              by_cases hlt : k < S.length
              · have hS2 := HS1.out.below hbr
                obtain ⟨b, off, rfl, hbl, c1, c2⟩ := hS2 k hlt
                have hprev : 0 < k → wr.cell? ⟨b, off + (k - 1) * 2, none⟩ = some (.int .i64 (tS S (k - 1))) := fun h => by
                  obtain ⟨b', off', e, _, c1', _⟩ := hS2 (k - 1) (by omega)
                  injection e with e
                  injection e with e1 e2
                  subst e1; subst e2; exact c1'
                clear hS2
                go_wp2_with fail
                refine gen_world fun w2 hw2 => ?_
                have hb2 : Below wr.heap.size wr w2 := by rw [hw2]; exact below_alloc _ _
                obtain ⟨e0, e1⟩ : w2.cell? ⟨wr.heap.size, 0, none⟩ = some (.int .i64 (tS S k)) ∧ w2.cell? ⟨wr.heap.size, 1, none⟩ = some (.int .i64 (cS S k)) := by rw [hw2]; exact pair_cells _ _ _
                have y2 := (hb2.cell (p := ⟨w.heap.size, 2, none⟩) (by simp; omega)).trans hx2
                have hprev2 : 0 < k → w2.cell? ⟨b, off + (k - 1) * 2, none⟩ = some (.int .i64 (tS S (k - 1))) := fun h => (hb2.cell (p := ⟨b, off + (k - 1) * 2, none⟩) hbl).trans (hprev h)
                have hbb := hbr.trans (hb2.mono hsr)
                clear hprev hw2 hx0 hx1 hx2 c1 c2
                have HBR := Lib.hid (fun h => budE_row (P := P) (A := A) hlt h)
                have HRO := Lib.hid (fun h1 h2 h3 h4 h5 => (show RowOK S k from ⟨h1, h2, h3, h4, h5⟩))
                have HHP := Lib.hid hprev2
                clear hprev2
                by_cases t1 : tS S k < 0
                · skip
                  have HV := Lib.hid (HBR.out (fun h => by have := h.1; omega))
                  clear HBR HRO HHP
                  go_quiet (fail)
                  go_wp2
                  go_ret
                  exact RetB.int HV.out (hb.trans ((below_drewN hbb _).mono hb.size))
                · by_cases t2 : 1099511627776 < tS S k
                  · skip
                    have HV := Lib.hid (HBR.out (fun h => by have := h.2.1; omega))
                    clear HBR HRO HHP
                    go_quiet (fail)
                    go_wp2
                    go_ret
                    exact RetB.int HV.out (hb.trans ((below_drewN hbb _).mono hb.size))
                  · rcases k with _ | j
                    · skip
                      by_cases c1 : cS S 0 < 1
                      · skip
                        have HV := Lib.hid (HBR.out (fun h => by have := h.2.2.2.1; omega))
                        clear HBR HRO HHP
                        go_quiet (fail)
                        go_wp2
                        go_ret
                        exact RetB.int HV.out (hb.trans ((below_drewN hbb _).mono hb.size))
                      · by_cases c2 : 1073741824 < cS S 0
                        · skip
                          have HV := Lib.hid (HBR.out (fun h => by have := h.2.2.2.2; omega))
                          clear HBR HRO HHP
                          go_quiet (fail)
                          go_wp2
                          go_ret
                          exact RetB.int HV.out (hb.trans ((below_drewN hbb _).mono hb.size))
                        · skip
                          have HV := Lib.hid (HRO.out (by omega) (by omega) (fun h => absurd h (by omega)) (by omega) (by omega))
                          clear HBR HRO HHP
                          go_quiet (fail)
                          go_wp2_with fail
                          go_roundw
                          case rel =>
                            refine ⟨0 + 1, by omega, by go_num, fun j' hj' => ?_, below_drewN hbb _⟩
                            by_cases hjk : j' = 0
                            · subst hjk; exact HV.out
                            · exact HP.out j' (by omega)
                          case measure => simp [intOf]; omega
                    · have hp := HHP.out (by omega)
                      rw [show j + 1 - 1 = j by omega] at hp
                      by_cases t3 : tS S (j + 1) < tS S j
                      · skip
                        have HV := Lib.hid (HBR.out (fun h => by have := h.2.2.1 (by omega); rw [show j + 1 - 1 = j by omega] at this; omega))
                        clear HBR HRO HHP
                        go_quiet (fail)
                        go_wp2
                        go_ret
                        exact RetB.int HV.out (hb.trans ((below_drewN hbb _).mono hb.size))
                      · skip
                        by_cases c1 : cS S (j + 1) < 1
                        · skip
                          have HV := Lib.hid (HBR.out (fun h => by have := h.2.2.2.1; omega))
                          clear HBR HRO HHP
                          go_quiet (fail)
                          go_wp2
                          go_ret
                          exact RetB.int HV.out (hb.trans ((below_drewN hbb _).mono hb.size))
                        · by_cases c2 : 1073741824 < cS S (j + 1)
                          · skip
                            have HV := Lib.hid (HBR.out (fun h => by have := h.2.2.2.2; omega))
                            clear HBR HRO HHP
                            go_quiet (fail)
                            go_wp2
                            go_ret
                            exact RetB.int HV.out (hb.trans ((below_drewN hbb _).mono hb.size))
                          · skip
                            have HV := Lib.hid (HRO.out (by omega) (by omega) (fun _ => by rw [show j + 1 - 1 = j by omega]; omega) (by omega) (by omega))
                            clear HBR HRO HHP
                            go_quiet (fail)
                            go_wp2_with fail
                            go_roundw
                            case rel =>
                              refine ⟨(j + 1) + 1, by omega, by go_num, fun j' hj' => ?_, below_drewN hbb _⟩
                              by_cases hjk : j' = (j + 1)
                              · subst hjk; exact HV.out
                              · exact HP.out j' (by omega)
                            case measure => simp [intOf]; omega
              · skip
                have HRW := Lib.hid (show ∀ j, j < S.length → RowOK S j from fun j hj => HP.out j (by omega))
                have HC := Lib.hid (RowOK.cheap HRW.out)
                have hs2 : w.heap.size < wr.heap.size := by omega
                have HB2 := Lib.hid (HX.out.below hbr)
                have HS2 := Lib.hid (HS1.out.below hbr)
                have hbw := hb.trans (hbr.mono hb.size)
                have hPP : 1 ≤ P ∧ P ≤ 1099511627776 := ⟨by omega, by omega⟩
                go_wp2_with fail
                clear HP HX HS1 hbr hk hlt hx0 hx1 hx2
                rename World => wo
                go_loopw [5] (fun i wr => ∃ k : Nat, k ≤ S.length ∧ i = .int .i64 k ∧ (∀ j, j < k → used P S (tS S j) ≤ A) ∧ Below wo.heap.size wo wr) (fun i _ => S.length - (intOf i).toNat)
                case atStart => exact ⟨0, Nat.zero_le _, rfl, fun j hj => absurd hj (by omega), Below.refl _ _⟩
                case round =>
                  obtain ⟨k, hk, rfl, hpre, hbr⟩ := hrel
                  have HP := Lib.hid hpre
                  clear hpre
                  have hx0 := (HB2.out.below hbr).c0
                  have hx1 := (HB2.out.below hbr).c1
                  have hx2 := (HB2.out.below hbr).c2
                  have hsr := hbr.size
                  have hs3 : w.heap.size < wr.heap.size := by omega
                  by_cases hlt : k < S.length
                  · have hS3 := HS2.out.below hbr
                    have hS3k := hS3
                    obtain ⟨b, off, rfl, hbl, c1, c2⟩ := hS3 k hlt
                    have HS3 := Lib.hid hS3k
                    have HT := Lib.hid (show 0 ≤ tS S k ∧ tS S k ≤ 2199023255552 by have := (HRW.out k hlt).1; have := (HRW.out k hlt).2.1; omega)
                    have hbq : b < wr.heap.size := by omega
                    clear hS3 hS3k
                    go_wp2_with fail
                    refine wp_region_grew (by kernel_rfl) (by kernel_rfl) ?_
                    repeat (go_big_quiet_step ((first
                      | (go_at_call 71; exact grew_of (refUsed_any P A (some ⟨b, off, none⟩) S cap (tS S k) _ hPP (HS3.out.below (grewW.below _ _)) HC.out hl HT.out)))))
                    refine wpQuiet_nil ?_
                    intro w4 hb4
                    have hbb := hbw.trans ((hbr.trans (hb4.mono hsr)).mono hbw.size)
                    by_cases hu : A < used P S (tS S k)
                    · have HV := Lib.hid (budE_used (P := P) (A := A) hlt (by omega))
                      go_wp2
                      go_ret
                      exact RetB.int HV.out hbb
                    · have HV := Lib.hid (show used P S (tS S k) ≤ A by omega)
                      go_wp2_with fail
                      go_roundw
                      case rel =>
                        refine ⟨k + 1, by omega, by go_num, fun j hj => ?_, hbr.trans (hb4.mono hsr)⟩
                        by_cases hjk : j = k
                        · subst hjk; exact HV.out
                        · exact HP.out j (by omega)
                      case measure => simp [intOf]; omega
                  · have HV := Lib.hid (budE_ok (P := P) (A := A) (S := S) ⟨HH.out, HRW.out, fun j hj => HP.out j (by omega)⟩)
                    go_wp2_with fail
                    go_ret
                    exact RetB.int HV.out.symm (hbw.trans (hbr.mono hbw.size))
            
end Go.Proofs.Ytmnkgfimdlhhiaa
