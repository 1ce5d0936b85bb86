/-
  BudgetTotals: the walk.
-/
import Derived.Test.YtmnkgfimdlhhiaaBudCleansW
namespace Go.Proofs.Ytmnkgfimdlhhiaa
open Go.RowKit

theorem tot_range {S : List Spd} (h : Cheap S) (hl : S.length ≤ 5) (a b : Int) : 0 ≤ totV S a b ∧ totV S a b ≤ 5368709120 := by
  have := sumK_range h (spanT a b) S.length (Nat.le_refl _)
  rw [show sumK (spanT a b) S S.length = totV S a b from rfl] at this
  omega
set_option maxRecDepth 100000 in
set_option maxHeartbeats 4000000 in
theorem budgetTotals_walk (A0 : Option Addr) (L0 : List Int) (c0 : Nat) (a b : Int) (w : World)
    (hl0 : L0.length ≤ maxLen) (hI0 : IntsAt w A0 L0) (_ : ∀ n ∈ L0, -9223372036854775808 ≤ n ∧ n ≤ 9223372036854775807) (ha : 0 ≤ a ∧ a ≤ 255) (hb : 0 ≤ b ∧ b ≤ 255) :
    Calls Try.prog 7 #[.slice A0 L0.length c0, .int .u8 a, .int .u8 b] w (RetB (.bool true) w) := by
  have hL := light_any A0 L0.length c0 w
  by_cases hlight : (L0.length : Int) ≤ 500
  · rw [decide_eq_true hlight] at hL
    have HLt := Lib.hid hL
    obtain ⟨a1, a2⟩ := ha
    obtain ⟨b1, b2⟩ := hb
    obtain ⟨fr, hfr⟩ : ∃ fr, fr = a % 40 := ⟨_, rfl⟩
    obtain ⟨bm, hbm⟩ : ∃ bm, bm = b % 40 := ⟨_, rfl⟩
    obtain ⟨tt, htt⟩ : ∃ tt, tt = fr + bm := ⟨_, rfl⟩
    have q1 : a.tmod 40 = fr := by rw [hfr]; exact Int.tmod_eq_emod_of_nonneg a1
    have q2 : b.tmod 40 = bm := by rw [hbm]; exact Int.tmod_eq_emod_of_nonneg b1
    have fr0 : 0 ≤ fr := by omega
    have fr1 : fr < 40 := by omega
    have bm0 : 0 ≤ bm := by omega
    have bm1 : bm < 40 := by omega
    have q3 : IntKind.i64.wrap a = a := IntWalk.i64_in _ (by omega)
    have q4 : IntKind.i64.wrap b = b := IntWalk.i64_in _ (by omega)
    have q5 : IntKind.i64.wrap (fr + bm) = tt := by rw [htt]; exact IntWalk.i64_in _ (by omega)
    have tt0 : fr ≤ tt := by omega
    have tt1 : tt ≤ 78 := by omega
    have HTT := Lib.hid htt
    clear hL hlight hfr hbm htt
    go_enter Try.func7, Try.ntmps7
    go_wp2_with fail
    refine ret_pure HLt.out ?_
    clear HLt
    go_wp2_with fail
    refine (roll_any A0 L0 c0 _ hl0 hI0).mono ?_
    rintro e w1 ⟨D, rfl, hDs, hD, hb1⟩
    have hDl := hD.lt
    clear hI0
    go_wp2_with fail
    refine (budget_any D L0 w1 hD).mono ?_
    intro e w2 hr
    obtain ⟨P, A, S, C, c, R2, rfl, hP, hA, hok, h25, hl, hC, hCs, hCn, hCb, hd2, hg2⟩ := hr.open_ hDl
    have hbw2 : Below w.heap.size w w2 := hb1.trans (grown_below hg2 hDs hb1.size)
    have HC := Lib.hid hC
    have HCb := Lib.hid hCb
    have HOK := Lib.hid hok
    have HD2 := Lib.hid hd2
    have hs2 := hbw2.size
    have hD2l := hd2.lt
    have hg2s := hg2.size
    clear hr hC hCs hCn hok h25 hg2 hD hb1 hCb hd2
    go_wp2_with fail
    refine (next_any D R2 (tt - fr + 1) _ (HD2.out.alloc _) (by omega)).mono ?_
    rintro e w3 ⟨rfl, -, hg3⟩
    obtain ⟨m1, m2⟩ := nextV_range R2 (tt - fr + 1) (by omega)
    generalize nextV R2 (tt - fr + 1) = d at *
    obtain ⟨am, ham⟩ : ∃ am, am = fr + d := ⟨_, rfl⟩
    have am0 : fr ≤ am := by omega
    have am1 : am ≤ tt := by omega
    have q6 : IntKind.i64.wrap (fr + d) = am := by rw [ham]; exact IntWalk.i64_in _ (by omega)
    have hX3 : BudCell w3 w2.heap.size P A (.slice C S.length c) := (BudCell.new (w := w2) P A (.slice C S.length c) rfl).grown hg3 (by omega)
    have hC3 : SpAt w3 C S := (HC.out.alloc _).grown hg3 (fun b off e => by have := HCb.out b off e; omega)
    have hbw3 : Below w.heap.size w w3 := (hbw2.trans ((below_alloc w2 (.cells #[.int .i64 P, .int .i64 A, .slice C S.length c] 24)).mono hs2)).trans (grown_below hg3 (by omega) (by simp; omega))
    obtain ⟨bx, hbx⟩ : ∃ bx, bx = w2.heap.size := ⟨_, rfl⟩
    rw [← hbx] at hX3 ⊢
    have HX3 := Lib.hid hX3
    have HC3 := Lib.hid hC3
    have HCH := Lib.hid (RowOK.cheap HOK.out.2.1)
    have HTI := Lib.hid (RowOK.times HOK.out.2.1)
    have HTR := Lib.hid (tot_range HCH.out hl)
    have HPP := Lib.hid (show 1 ≤ P ∧ P ≤ 1099511627776 by omega)
    have HAA := Lib.hid (show 0 ≤ A ∧ A ≤ 1073741824 by omega)
    obtain ⟨P1, P2⟩ := hP
    obtain ⟨A1, A2⟩ := hA
    clear ham hX3 hC3 HC HCb HD2 hg3 m1 m2 hbx hbw2
    go_wp2_with fail
    go_loopw [13, 12] (fun k s wr => ∃ k' : Int, fr ≤ k' ∧ k' ≤ tt + 1 ∧ k = .int .i64 k' ∧ s = .int .i64 (totV S fr (k' - 1)) ∧ Below w3.heap.size w3 wr) (fun k _ _ => (tt + 1 - intOf k).toNat)
    case atStart => exact ⟨fr, by omega, by omega, rfl, by rw [tot_empty S (by omega)], Below.refl _ _⟩
    case round =>
      obtain ⟨k, hk1, hk2, rfl, rfl, hbr⟩ := hrel
      have x0 := (HX3.out.below hbr).c0
      have x1 := (HX3.out.below hbr).c1
      have x2 := (HX3.out.below hbr).c2
      have sx := blk_lt (HX3.out.below hbr)
      have HCr := Lib.hid (HC3.out.below hbr)
      have hbrs := hbr.size
      have hbwr : Below w.heap.size w wr := hbw3.trans (hbr.mono hbw3.size)
      by_cases hlt : k ≤ tt
      · have hr1 := HTR.out fr (k - 1)
        have hr2 := HTR.out k k
        have hsp := tot_split S (a := fr) (m := k - 1) (b := k) (by omega) (by omega)
        rw [show k - 1 + 1 = k by omega] at hsp
        have hw : IntKind.i64.wrap (totV S fr (k - 1) + totV S k k) = totV S fr k := by rw [hsp]; exact IntWalk.i64_in _ (by have := HTR.out fr k; omega)
        have HW := Lib.hid hw
        clear hsp hw
        go_wp2_with fail
        refine ret_below (total_any P A C S c k k _ HCr.out HCH.out (by omega)) fun w6 hb6 => ?_
        have hw := HW.out
        go_wp2_with fail
        go_roundw
        case rel => exact ⟨k + 1, by omega, by omega, by go_num, by rw [show k + 1 - 1 = k by omega], hbr.trans (hb6.mono hbrs)⟩
        case measure => simp [intOf]; omega
      · have hke : k - 1 = tt := by omega
        rw [hke]
        have hT0 : 0 ≤ tt := by omega
        have u1 : tt.tdiv P = tt / P := Int.tdiv_eq_ediv_of_nonneg hT0
        have z1 : ¬ P = 0 := by omega
        have z2 : (P == 0) = false := by simp; omega
        have c3 := Int.ediv_nonneg hT0 (show 0 ≤ P by omega)
        have c4 := Int.ediv_le_self P hT0
        have c5 : tt / P * P ≤ tt := Int.ediv_mul_le tt (by omega)
        have c6 : 0 ≤ tt / P * P := Int.mul_nonneg c3 (by omega)
        have v1 : IntKind.i64.wrap (tt / P) = tt / P := IntWalk.i64_in _ (by omega)
        have v2 : IntKind.i64.wrap (tt / P * P) = tt / P * P := IntWalk.i64_in _ (by omega)
        have husd := used_span (P := P) (time := tt) (S := S) P1
        have hlv := leftV_pos (P := P) (A := A) (S := S) (time := tt) (by omega)
        have s1 : IntKind.i64.wrap (totV S fr am + totV S (am + 1) tt) = totV S fr tt := by
          rw [tot_split S (by omega) am1]; exact IntWalk.i64_in _ (by have := HTR.out fr tt; omega)
        have s3 : leftV P A S tt + totV S (tt / P * P) (tt / P * P + P - 1) = A := by rw [hlv, husd, Int.sub_add_cancel]
        have S3 := Lib.hid s3
        have S4 := Lib.hid (And.intro c5 c6)
        clear s3
        have n1 : (totV S fr tt == totV S fr tt) = true := by simp
        have n3 : (A == A) = true := by simp
        clear hke husd hlv
        go_wp2_with fail
        clear hlt
        go_quiet (fail)
        clear u1 z1 z2 c3 c4 c5 c6 v1 v2
        go_wp2_with fail
        refine gen_world fun w6 hw6 => ?_
        have hb6 : Below wr.heap.size wr w6 := by rw [hw6]; exact below_drewN (Below.refl _ _) _
        have y0 := (hb6.cell (p := ⟨bx, 0, none⟩) sx).trans x0
        have y1 := (hb6.cell (p := ⟨bx, 1, none⟩) sx).trans x1
        have y2 := (hb6.cell (p := ⟨bx, 2, none⟩) sx).trans x2
        have sy : bx < w6.heap.size := Nat.lt_of_lt_of_le sx hb6.size
        have HC6 := Lib.hid (HCr.out.below hb6)
        have hbw6 : Below w.heap.size w w6 := hbwr.trans (hb6.mono hbwr.size)
        clear hw6 x0 x1 x2 sx
        refine wp_region_grew (by kernel_rfl) (by kernel_rfl) ?_
        repeat (go_big_quiet_step ((first
          | (go_at_call 12; exact grew_of (awake_true _))
          | (go_at_call 23; exact grew_of (total_any P A C S c _ _ _ (HC6.out.below (grewW.below _ _)) HCH.out (by omega)))
          | (go_at_call 20; exact grew_of (left_any P A C S c tt _ HPP.out HAA.out (HC6.out.below (grewW.below _ _)) HTI.out HCH.out (by omega) (by omega))))))
        refine wpQuiet_nil ?_
        intro w7 hb7
        go_wp2
        go_ret
        obtain ⟨c5, c6⟩ := S4.out
        refine RetB.bool ?_ (hbw6.trans (hb7.mono hbw6.size))
        rw [IntWalk.wrap64_in (tt / P * P + P) (by omega), IntWalk.wrap64_in (tt / P * P + P - 1) (by omega), S3.out, IntWalk.wrap64_in A (by omega)]
        exact n3
  · have hL' := hL
    rw [decide_eq_false hlight] at hL
    have HLt := Lib.hid hL
    clear hL hL'
    go_enter Try.func7, Try.ntmps7
    go_wp2_with fail
    refine ret_pure HLt.out ?_
    go_wp2_with fail
    refine ret_below (awake_true _) fun w1 hb => ?_
    go_wp2
    go_ret
    exact RetB.bool rfl hb
end Go.Proofs.Ytmnkgfimdlhhiaa
