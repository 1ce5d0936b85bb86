/-
  Budgets: comparing them; all functions agree.
-/
import Derived.Test.YtmnkgfimdlhhiaaBudJ
namespace Go.Proofs.Ytmnkgfimdlhhiaa
open Go.RowKit

set_option maxRecDepth 100000 in
set_option maxHeartbeats 1000000 in
theorem refSame_true (P A : Int) (A1 A2 : Option Addr) (S : List Spd) (c1 c2 : Nat) (w : World) (h1 : SpAt w A1 S) (h2 : SpAt w A2 S) (hl : S.length ≤ 200000) :
    Calls Try.prog 33 #[.agg #[.int .i64 P, .int .i64 A, .slice A1 S.length c1], .agg #[.int .i64 P, .int .i64 A, .slice A2 S.length c2]] w (RetB (.bool true) w) := by
  have H1 := Lib.hid h1
  have H2 := Lib.hid h2
  clear h1 h2
  have n1 : (P != P) = false := by simp
  have n2 : (A != A) = false := by simp
  have n3 : ((S.length : Int) != (S.length : Int)) = false := by simp
  go_enter Try.func33, Try.ntmps33
  go_wp2_with fail
  refine gen_world fun w1 hw1 => ?_
  have hb : Below w.heap.size w w1 := by rw [hw1]; exact (below_alloc _ _).alloc (by simp) _
  have hX : BudCell w1 w.heap.size P A (.slice A1 S.length c1) := by rw [hw1]; exact (BudCell.new _ _ _ rfl).alloc _
  have hY : BudCell w1 (w.heap.size + 1) P A (.slice A2 S.length c2) := by rw [hw1]; exact BudCell.new _ _ _ (by simp)
  have G1 := Lib.hid (H1.out.below hb)
  have G2 := Lib.hid (H2.out.below hb)
  have HX := Lib.hid hX
  have HY := Lib.hid hY
  clear hw1 hX hY H1 H2
  go_loopw [5] (fun i wr => ∃ (k : Nat), k ≤ S.length ∧ i = .int .i64 k ∧ Below w1.heap.size w1 wr) (fun i _ => S.length - (intOf i).toNat)
  case atStart => exact ⟨0, Nat.zero_le _, rfl, Below.refl _ _⟩
  case round =>
    obtain ⟨k, hk, rfl, hbr⟩ := hrel
    have x2 := (HX.out.below hbr).c2
    have y2 := (HY.out.below hbr).c2
    by_cases hlt : k < S.length
    · obtain ⟨b, off, rfl, hbl, q1, q2⟩ := G1.out.below hbr k hlt
      obtain ⟨b', off', rfl, hbl', r1, r2⟩ := G2.out.below hbr k hlt
      have n4 : (tS S k != tS S k) = false := by simp
      have n5 : (cS S k != cS S k) = false := by simp
      go_wp2_with fail
      go_quiet (fail)
      go_wp2_with fail
      go_roundw
      case rel => exact ⟨k + 1, by omega, by go_num, below_drewN hbr _⟩
      case measure => simp [intOf]; omega
    · go_wp2_with fail
      go_ret
      exact RetB.bool rfl (hb.trans (hbr.mono hb.size))
set_option maxHeartbeats 1000000 in
theorem same_true (P A E : Int) (A1 A2 : Option Addr) (S : List Spd) (c1 c2 : Nat) (w : World) (h1 : SpAt w A1 S) (h2 : SpAt w A2 S) (hl : S.length ≤ 200000) :
    Calls Try.prog 43 #[.agg #[.int .i64 P, .int .i64 A, .slice A1 S.length c1], .agg #[.int .i64 P, .int .i64 A, .slice A2 S.length c2], .int .i64 E, .int .i64 E] w (RetB (.bool true) w) := by
  have H1 := Lib.hid h1
  have H2 := Lib.hid h2
  have n1 : (E == E) = true := by simp
  clear h1 h2
  go_enter Try.func43, Try.ntmps43
  go_wp2_with fail
  refine ret_below (refSame_true P A A1 A2 S c1 c2 _ ((H1.out.alloc _).alloc _) ((H2.out.alloc _).alloc _) hl) fun w1 hb => ?_
  go_wp2
  go_ret
  exact RetB.bool rfl (((below_alloc _ _).alloc (by simp) _).trans (hb.mono (by simp; omega)))

/-- What a call that returns a budget leaves: the budget's own slice written out. -/
theorem SpendP.open_ {w : World} {P A E : Int} {S : List Spd} {e : Ending} {w' : World} (h : SpendP w P A S E e w') : ∃ C c, e = .returned (.tuple #[.agg #[.int .i64 P, .int .i64 A, .slice C S.length c], .int .i64 E]) ∧ SpAt w' C S ∧ Below w.heap.size w w' := by
  obtain ⟨v, rfl, h1, h2⟩ := h
  obtain ⟨C, c, rfl, h3, -, -⟩ := h1.at_
  exact ⟨C, c, rfl, h3, h2⟩
theorem spS_len (P A : Int) (S : List Spd) (t x : Int) : (spS P A S t x).length ≤ S.length + 1 := by
  unfold spS; split
  · simp
  · omega
theorem clS_len (P A : Int) (S : List Spd) (t : Int) : (clS P A S t).length ≤ S.length := by
  unfold clS; split
  · exact List.length_filter_le _ _
  · omega
set_option maxRecDepth 100000 in
set_option maxHeartbeats 4000000 in
theorem agree_true (P A : Int) (B : Option Addr) (S : List Spd) (c : Nat) (t x : Int) (w : World) (hS : SpAt w B S) (hA : ∀ a, B = some a → a.spot = none ∨ S.length = 0) (hN : B = none → S.length = 0 ∧ c = 0) (hl : S.length ≤ 10000) (ht : t ≤ 2199023255552) :
    Calls Try.prog 13 #[.agg #[.int .i64 P, .int .i64 A, .slice B S.length c], .int .i64 t, .int .i64 x] w (RetB (.bool true) w) := by
  have HS := Lib.hid hS
  have HA := Lib.hid hA
  have HN := Lib.hid hN
  clear hS hA hN
  go_enter Try.func13, Try.ntmps13
  go_wp2_with fail
  have hl1 := spS_len P A S t x
  have hl3 := clS_len P A S t
  generalize hS1 : spS P A S t x = S1 at *
  generalize hE1 : spE P A S t x = E1 at *
  generalize hS3 : clS P A S t = S3 at *
  generalize hE3 : clE P A S t = E3 at *
  have HS1 := Lib.hid hS1
  have HE1 := Lib.hid hE1
  have HS3 := Lib.hid hS3
  have HE3 := Lib.hid hE3
  clear hS1 hE1 hS3 hE3
  refine (spend_any P A B S c t x _ (HS.out.alloc _) HA.out HN.out (by omega) ht).mono ?_
  rw [HS1.out, HE1.out]
  intro e w1 hr
  obtain ⟨C1, c1, rfl, hC1, hb1⟩ := hr.open_
  clear hr
  have hbw1 : Below w.heap.size w w1 := (below_alloc _ _).trans (hb1.mono (by simp))
  have HX1 := Lib.hid ((BudCell.new (w := w) P A (.slice B S.length c) rfl).below hb1)
  have HC11 := Lib.hid hC1
  clear hb1 hC1
  have x10 := HX1.out.c0
  have x11 := HX1.out.c1
  have x12 := HX1.out.c2
  have sx1 := blk_lt HX1.out
  go_wp2_with fail
  clear x10 x11 x12
  refine (refSpend_any P A B S c t x _ ((HS.out.below hbw1).alloc _) HA.out HN.out (by omega) ht).mono ?_
  rw [HS1.out, HE1.out]
  intro e w2 hr
  obtain ⟨C2, c2, rfl, hC2, hb2⟩ := hr.open_
  clear hr
  have hp2 : Below w1.heap.size w1 w2 := (below_alloc _ _).trans (hb2.mono (by simp))
  have hbw2 : Below w.heap.size w w2 := hbw1.trans (hp2.mono hbw1.size)
  have HX2 := Lib.hid (HX1.out.below hp2)
  have HR21 := Lib.hid ((BudCell.new (w := w1) P A (.slice C1 S1.length c1) rfl).below hb2)
  have HC21 := Lib.hid (HC11.out.below hp2)
  have HC22 := Lib.hid hC2
  clear hb2 hC2
  have x20 := HX2.out.c0
  have x21 := HX2.out.c1
  have x22 := HX2.out.c2
  have sx2 := blk_lt HX2.out
  go_wp2_with fail
  clear x20 x21 x22
  refine (clean_any P A B S c t _ ((HS.out.below hbw2).alloc _) HA.out HN.out (by omega)).mono ?_
  rw [HS3.out, HE3.out]
  intro e w3 hr
  obtain ⟨C3, c3, rfl, hC3, hb3⟩ := hr.open_
  clear hr
  have hp3 : Below w2.heap.size w2 w3 := (below_alloc _ _).trans (hb3.mono (by simp))
  have hbw3 : Below w.heap.size w w3 := hbw2.trans (hp3.mono hbw2.size)
  have HX3 := Lib.hid (HX2.out.below hp3)
  have HR31 := Lib.hid (HR21.out.below hp3)
  have HR32 := Lib.hid ((BudCell.new (w := w2) P A (.slice C2 S1.length c2) rfl).below hb3)
  have HC31 := Lib.hid (HC21.out.below hp3)
  have HC32 := Lib.hid (HC22.out.below hp3)
  have HC33 := Lib.hid hC3
  clear hb3 hC3
  have x30 := HX3.out.c0
  have x31 := HX3.out.c1
  have x32 := HX3.out.c2
  have sx3 := blk_lt HX3.out
  go_wp2_with fail
  clear x30 x31 x32
  refine (refClean_any P A B S c t _ ((HS.out.below hbw3).alloc _) HA.out HN.out (by omega)).mono ?_
  rw [HS3.out, HE3.out]
  intro e w4 hr
  obtain ⟨C4, c4, rfl, hC4, hb4⟩ := hr.open_
  clear hr
  have hp4 : Below w3.heap.size w3 w4 := (below_alloc _ _).trans (hb4.mono (by simp))
  have hbw4 : Below w.heap.size w w4 := hbw3.trans (hp4.mono hbw3.size)
  have HX4 := Lib.hid (HX3.out.below hp4)
  have HR41 := Lib.hid (HR31.out.below hp4)
  have HR42 := Lib.hid (HR32.out.below hp4)
  have HR43 := Lib.hid ((BudCell.new (w := w3) P A (.slice C3 S3.length c3) rfl).below hb4)
  have HC41 := Lib.hid (HC31.out.below hp4)
  have HC42 := Lib.hid (HC32.out.below hp4)
  have HC43 := Lib.hid (HC33.out.below hp4)
  have HC44 := Lib.hid hC4
  clear hb4 hC4
  have x40 := HX4.out.c0
  have x41 := HX4.out.c1
  have x42 := HX4.out.c2
  have sx4 := blk_lt HX4.out
  go_wp2_with fail
  refine gen_world fun w5 hw5 => ?_
  have hp5 : Below w4.heap.size w4 w5 := by rw [hw5]; exact below_alloc _ _
  have hR4 : BudCell w5 w4.heap.size P A (.slice C4 S3.length c4) := by rw [hw5]; exact BudCell.new _ _ _ rfl
  have hbw5 : Below w.heap.size w w5 := hbw4.trans (hp5.mono hbw4.size)
  clear hw5 x40 x41 x42
  have HX5 := Lib.hid (HX4.out.below hp5)
  have HS5 := Lib.hid (HS.out.below hbw5)
  have hR1 := HR41.out.below hp5
  have hR2 := HR42.out.below hp5
  have hR3 := HR43.out.below hp5
  have r10 := hR1.c0
  have r11 := hR1.c1
  have r12 := hR1.c2
  have sr1 := blk_lt hR1
  have HC51 := Lib.hid (HC41.out.below hp5)
  have r20 := hR2.c0
  have r21 := hR2.c1
  have r22 := hR2.c2
  have sr2 := blk_lt hR2
  have HC52 := Lib.hid (HC42.out.below hp5)
  have r30 := hR3.c0
  have r31 := hR3.c1
  have r32 := hR3.c2
  have sr3 := blk_lt hR3
  have HC53 := Lib.hid (HC43.out.below hp5)
  have r40 := hR4.c0
  have r41 := hR4.c1
  have r42 := hR4.c2
  have sr4 := blk_lt hR4
  have HC54 := Lib.hid (HC44.out.below hp5)
  have x50 := HX5.out.c0
  have x51 := HX5.out.c1
  have x52 := HX5.out.c2
  have sx5 := blk_lt HX5.out
  clear hR1 hR2 hR3 hR4 HX1 HX2 HX3 HX4 HR21 HR31 HR32 HR41 HR42 HR43 hbw1 hbw2 hbw3 hbw4 hp2 hp3 hp4 hp5 sx1 sx2 sx3 sx4
  have n1 : (budE P A S != budE P A S) = false := by simp
  refine wp_region_grew (by kernel_rfl) (by kernel_rfl) ?_
  repeat (go_big_quiet_step ((first
    | (go_at_call 43; exact grew_of (same_true _ _ _ _ _ _ _ _ _ (by first | exact HC51.out.below (grewW.below _ _) | exact HC53.out.below (grewW.below _ _)) (by first | exact HC52.out.below (grewW.below _ _) | exact HC54.out.below (grewW.below _ _)) (by omega)))
    | (go_at_call 21; exact grew_of (check_any P A B S c _ (HS5.out.below (grewW.below _ _)) (by omega)))
    | (go_at_call 44; exact grew_of (refCheck_any P A B S c _ (HS5.out.below (grewW.below _ _)) (by omega))))))
  refine wpQuiet_nil ?_
  intro w6 hb6
  clear r10 r11 r12 r20 r21 r22 r30 r31 r32 r40 r41 r42 sr1 sr2 sr3 sr4 x50 x51 x52 sx5 n1
  have HX6 := Lib.hid (HX5.out.below hb6)
  have HS6 := Lib.hid (HS5.out.below hb6)
  have hbw6 : Below w.heap.size w w6 := hbw5.trans (hb6.mono hbw5.size)
  have x60 := HX6.out.c0
  have x61 := HX6.out.c1
  have x62 := HX6.out.c2
  have sx6 := blk_lt HX6.out
  have n2 : (leftV P A S t == leftV P A S t) = true := by simp
  have n3 : (totV S x t == totV S x t) = true := by simp
  by_cases hok : BudOK P A S
  · have HOK := Lib.hid hok
    have HE := Lib.hid (budE_ok hok)
    have HCh := Lib.hid (RowOK.cheap hok.2.1)
    have HTi := Lib.hid (RowOK.times hok.2.1)
    have HPP := Lib.hid (show 1 ≤ P ∧ P ≤ 1099511627776 from ⟨hok.1.1, hok.1.2.1⟩)
    have HAA := Lib.hid (show 0 ≤ A ∧ A ≤ 1073741824 from ⟨hok.1.2.2.1, hok.1.2.2.2.1⟩)
    clear hok
    go_wp2_with fail
    have hchk : ∀ W, Below w6.heap.size w6 W → Calls Try.prog 44 #[.agg #[.int .i64 P, .int .i64 A, .slice B S.length c]] W (RetB (.int .i64 0) W) := fun W hW => by
      have := refCheck_any P A B S c W (HS6.out.below hW) (by omega)
      rw [HE.out] at this; exact this
    have HCK := Lib.hid hchk
    clear hchk
    refine wp_region_grew (by kernel_rfl) (by kernel_rfl) ?_
    repeat (go_big_quiet_step ((first
      | (go_at_call 44; exact grew_of (HCK.out _ (grewW.below _ _)))
      | (go_at_call 20; exact grew_of (left_any P A B S c t _ HPP.out HAA.out (HS6.out.below (grewW.below _ _)) HTi.out HCh.out (by omega) ht))
      | (go_at_call 45; exact grew_of (refLeft_any P A B S c t _ HPP.out HAA.out (HS6.out.below (grewW.below _ _)) HCh.out (by omega) ht))
      | (go_at_call 23; exact grew_of (total_any P A B S c x t _ (HS6.out.below (grewW.below _ _)) HCh.out (by omega)))
      | (go_at_call 46; exact grew_of (refTotal_any P A B S c x t _ (HS6.out.below (grewW.below _ _)) HCh.out (by omega))))))
    refine wpQuiet_nil ?_
    intro w7 hb7
    go_wp2
    go_ret
    exact RetB.bool rfl (hbw6.trans (hb7.mono hbw6.size))
  · have HE := Lib.hid (budE_bad hok)
    clear hok
    go_wp2_with fail
    have hchk : ∀ W, Below w6.heap.size w6 W → Calls Try.prog 44 #[.agg #[.int .i64 P, .int .i64 A, .slice B S.length c]] W (RetB (.int .i64 56) W) := fun W hW => by
      have := refCheck_any P A B S c W (HS6.out.below hW) (by omega)
      rw [← HE.out] at this; exact this
    have HCK := Lib.hid hchk
    clear hchk
    refine wp_region_grew (by kernel_rfl) (by kernel_rfl) ?_
    repeat (go_big_quiet_step ((first
      | (go_at_call 44; exact grew_of (HCK.out _ (grewW.below _ _))))))
    refine wpQuiet_nil ?_
    intro w7 hb7
    go_wp2
    go_ret
    exact RetB.bool rfl (hbw6.trans (hb7.mono hbw6.size))
end Go.Proofs.Ytmnkgfimdlhhiaa
