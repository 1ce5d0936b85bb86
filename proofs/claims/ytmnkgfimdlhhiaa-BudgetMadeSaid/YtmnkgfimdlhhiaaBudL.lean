/-
  Budgets: the sanity check.
-/
import Derived.Test.YtmnkgfimdlhhiaaBudK
namespace Go.Proofs.Ytmnkgfimdlhhiaa
open Go.RowKit

theorem one_row {t c : Int} (k : Nat) (hk : k < [((t, c) : Spd)].length) : k = 0 := by simpa using hk
theorem awOK0 : BudOK 10 3 [] := ⟨⟨by decide, by decide, by decide, by decide, by decide⟩, fun k hk => absurd hk (by simp), fun k hk => absurd hk (by simp)⟩
theorem awOK1 : BudOK 10 3 [(4, 2)] := ⟨⟨by decide, by decide, by decide, by decide, by decide⟩,
  fun k hk => by rw [one_row k hk]; exact ⟨by decide, by decide, fun h => absurd h (by omega), by decide, by decide⟩, fun k hk => by rw [one_row k hk]; decide +kernel⟩
theorem awE1 : spE 10 3 [] 4 2 = 0 := (spE_good awOK0 ⟨by decide, by decide, fun h => absurd h (by simp)⟩ (by decide) (by decide +kernel) (by decide)).symm
theorem awS1 : spS 10 3 [] 4 2 = [(4, 2)] := by unfold spS; rw [if_pos awE1]; rfl
theorem awE2 : spE 10 3 [(4, 2)] 9 2 = 56 := (spE_left awOK1 ⟨by decide, by decide, fun _ => by decide⟩ (by decide) (by decide +kernel)).symm
theorem awS2 : spS 10 3 [(4, 2)] 9 2 = [(4, 2)] := by unfold spS; rw [if_neg (by rw [awE2]; decide)]
theorem awE3 : clE 10 3 [(4, 2)] 10 = 0 := (clE_ok awOK1 (by decide)).symm
theorem awS3 : clS 10 3 [(4, 2)] 10 = [] := by unfold clS; rw [if_pos awE3]; decide +kernel
theorem awL1 : leftV 10 3 [(4, 2)] 9 = 1 := by decide +kernel
theorem awL2 : leftV 10 3 [(4, 2)] 10 = 3 := by decide +kernel
theorem awT : totV [(4, 2)] 0 9 = 2 := by decide +kernel
theorem awC0 : budE 0 0 [] = 56 := (budE_head (fun h => by have := h.1; omega)).symm
theorem awCh : Cheap [(4, 2)] := fun k hk => by rw [one_row k hk]; exact ⟨by decide, by decide⟩
theorem awTi : Times [(4, 2)] := fun k hk => by rw [one_row k hk]; exact ⟨by decide, by decide⟩

theorem SpOwn.spot {w : World} {base n c : Nat} {C : Option Addr} {S : List Spd} (h : SpOwn w base (.slice C n c) S) : ∀ a, C = some a → a.spot = none ∨ S.length = 0 := fun a ha => by
  rcases h.2 with ⟨h0, _⟩ | ⟨g', cap, cur, hv, _⟩
  · injection h0 with h1; rw [h1] at ha; cases ha
  · injection hv with h1; rw [h1] at ha; injection ha with ha; left; rw [← ha]
theorem SpOwn.nilcap {w : World} {base n c : Nat} {C : Option Addr} {S : List Spd} (h : SpOwn w base (.slice C n c) S) : C = none → S.length = 0 ∧ c = 0 := fun ha => by
  rcases h.2 with ⟨h0, h2⟩ | ⟨g', cap, cur, hv, _⟩
  · injection h0 with h1 h3 h4; exact ⟨h2, h4⟩
  · injection hv with h1; rw [h1] at ha; cases ha

set_option maxRecDepth 100000 in
set_option maxHeartbeats 4000000 in
theorem awake_true (w : World) : Calls Try.prog 12 #[] w (RetB (.bool true) w) := by
  have hsp1 : ∀ W, Calls Try.prog 19 #[.agg #[.int .i64 10, .int .i64 3, .slice none 0 0], .int .i64 4, .int .i64 2] W (SpendP W 10 3 [(4, 2)] 0) := fun W => by
    have := spend_any 10 3 none [] 0 4 2 W (SpAt.nil _ _) (fun a e => by cases e) (fun _ => ⟨rfl, rfl⟩) (by simp) (by omega)
    rw [awE1, awS1] at this; exact this
  have HSP1 := Lib.hid hsp1
  clear hsp1
  go_enter Try.func12, Try.ntmps12
  go_wp2_with fail
  refine (HSP1.out _).mono ?_
  intro e w1 hr
  obtain ⟨v, rfl, hown, hb1⟩ := hr
  obtain ⟨C, c, rfl, hC, hCN, hCb⟩ := hown.at_
  have hX1 : BudCell w1 w.heap.size 10 3 (.slice none 0 0) := by
    refine BudCell.below ?_ hb1
    first | exact BudCell.new _ _ _ rfl | exact (((BudCell.new (w := w) 0 0 (.slice none 0 0) rfl).set0 10).set1 3).set2 _
  have hbw1 : Below w.heap.size w w1 := by
    refine Below.trans ?_ (hb1.mono (by simp))
    first | exact below_alloc _ _ | exact below_set (below_set (below_set (below_alloc _ _) _ _ (by simp)) _ _ (by simp)) _ _ (by simp)
  have x0 := hX1.c0
  have x1 := hX1.c1
  have x2 := hX1.c2
  have f0 := hX1.frozen 0
  have f1 := hX1.frozen 1
  have f2 := hX1.frozen 2
  have sx := blk_lt hX1
  have HX1 := Lib.hid hX1
  have HOW := Lib.hid hown
  have HCN := Lib.hid hCN
  have HCb := Lib.hid hCb
  clear hX1 hC hown hCN hCb hb1
  go_wp2_with fail
  obtain ⟨w2, hw2⟩ : ∃ w2, w2 = (((w1.setCell ⟨w.heap.size, 0, none⟩ (.int .i64 10)).setCell ⟨w.heap.size, 1, none⟩ (.int .i64 3)).setCell ⟨w.heap.size, 2, none⟩ (.slice C 1 c)) := ⟨_, rfl⟩
  rw [← hw2]
  have hX2 : BudCell w2 w.heap.size 10 3 (.slice C 1 c) := by rw [hw2]; exact ((HX1.out.set0 10).set1 3).set2 _
  have hO2 : SpOwn w2 (w.heap.size + 1) (.slice C 1 c) [(4, 2)] := by
    rw [hw2]; exact (((HOW.out.mono (by simp)).set_ _ _ (by simp)).set_ _ _ (by simp)).set_ _ _ (by simp)
  have hbw2 : Below w.heap.size w w2 := by rw [hw2]; exact below_set (below_set (below_set hbw1 _ _ (by simp)) _ _ (by simp)) _ _ (by simp)
  have HAC := Lib.hid hO2.spot
  have HNC := Lib.hid hO2.nilcap
  obtain ⟨C', c', ec, hC2, -, -⟩ := hO2.at_
  injection ec with ec1 ec2 ec3
  subst ec1; subst ec3
  clear ec2
  clear hw2 hO2 x0 x1 x2 f0 f1 f2 sx HX1 HOW HCN HCb hbw1
  have HX2 := Lib.hid hX2
  have HC2 := Lib.hid hC2
  have hSp := spend_any 10 3 C [(4, 2)] c 9 2 w2 hC2 HAC.out HNC.out (by simp) (by omega)
  rw [awE2, awS2] at hSp
  refine hSp.mono ?_
  intro e w3 hr
  obtain ⟨C3, c3, rfl, hC3, hb3⟩ := hr.open_
  have hbw3 : Below w.heap.size w w3 := hbw2.trans (hb3.mono hbw2.size)
  have HX3 := Lib.hid (HX2.out.below hb3)
  have HC3 := Lib.hid (HC2.out.below hb3)
  have x0 := HX3.out.c0
  have x1 := HX3.out.c1
  have x2 := HX3.out.c2
  have sx := blk_lt HX3.out
  clear hSp hr hC2 hX2 hC3 HX2 HC2
  go_wp2_with fail
  have hCl := clean_any 10 3 C [(4, 2)] c 10 _ (HC3.out.below (below_alloc w3 (.cells #[.int .i64 10, .int .i64 3, .slice C3 1 c3] 24))) HAC.out HNC.out (by simp)
  rw [awE3, awS3] at hCl
  refine hCl.mono ?_
  intro e w4 hr
  obtain ⟨C4, c4, rfl, -, hb4⟩ := hr.open_
  have hp4 : Below w3.heap.size w3 w4 := (below_alloc _ _).trans (hb4.mono (by simp))
  have hbw4 : Below w.heap.size w w4 := hbw3.trans (hp4.mono hbw3.size)
  have HX4 := Lib.hid (HX3.out.below hp4)
  have HC4 := Lib.hid (HC3.out.below hp4)
  clear x0 x1 x2 sx hCl hr HX3 HC3 hb3 hb4
  have x0 := HX4.out.c0
  have x1 := HX4.out.c1
  have x2 := HX4.out.c2
  have sx := blk_lt HX4.out
  go_wp2_with fail
  have hl1 := left_any 10 3 C [(4, 2)] c 9 _ (by omega) (by omega) (HC4.out.below (below_alloc w4 (.cells #[.int .i64 10, .int .i64 3, .slice C4 0 c4] 24))) awTi awCh (by simp) (by omega)
  rw [awL1] at hl1
  refine ret_below hl1 fun w5 hb5 => ?_
  clear hl1
  have hz5 : BudCell w5 w4.heap.size 10 3 (.slice C4 0 c4) := (BudCell.new _ _ _ rfl).below hb5
  have hp5 : Below w4.heap.size w4 w5 := (below_alloc _ _).trans (hb5.mono (by simp))
  have hbw5 : Below w.heap.size w w5 := hbw4.trans (hp5.mono hbw4.size)
  have HX5 := Lib.hid (HX4.out.below hp5)
  have HC5 := Lib.hid (HC4.out.below hp5)
  have HZ5 := Lib.hid hz5
  clear x0 x1 x2 sx HX4 HC4 hz5
  have x0 := HX5.out.c0
  have x1 := HX5.out.c1
  have x2 := HX5.out.c2
  have sx := blk_lt HX5.out
  go_wp2_with fail
  have hl2 := left_any 10 3 C [(4, 2)] c 10 _ (by omega) (by omega) HC5.out awTi awCh (by simp) (by omega)
  rw [awL2] at hl2
  refine ret_below hl2 fun w6 hb6 => ?_
  clear hl2
  have hbw6 : Below w.heap.size w w6 := hbw5.trans (hb6.mono hbw5.size)
  have HX6 := Lib.hid (HX5.out.below hb6)
  have HC6 := Lib.hid (HC5.out.below hb6)
  have HZ6 := Lib.hid (HZ5.out.below hb6)
  clear x0 x1 x2 sx HX5 HC5 HZ5
  have x0 := HX6.out.c0
  have x1 := HX6.out.c1
  have x2 := HX6.out.c2
  have sx := blk_lt HX6.out
  go_wp2_with fail
  have hl3 := total_any 10 3 C [(4, 2)] c 0 9 _ HC6.out awCh (by simp)
  rw [awT] at hl3
  refine ret_below hl3 fun w7 hb7 => ?_
  clear hl3
  have hbw7 : Below w.heap.size w w7 := hbw6.trans (hb7.mono hbw6.size)
  have HX7 := Lib.hid (HX6.out.below hb7)
  have HC7 := Lib.hid (HC6.out.below hb7)
  have HZ7 := Lib.hid (HZ6.out.below hb7)
  clear x0 x1 x2 sx HX6 HC6 HZ6
  have x0 := HX7.out.c0
  have x1 := HX7.out.c1
  have x2 := HX7.out.c2
  have z2 := HZ7.out.c2
  have sx := blk_lt HX7.out
  go_wp2_with fail
  have hl4 := check_any 10 3 C [(4, 2)] c _ HC7.out (by simp)
  rw [budE_ok awOK1] at hl4
  refine ret_below hl4 fun w8 hb8 => ?_
  clear hl4 x0 x1 x2 z2 sx
  have hbw8 : Below w.heap.size w w8 := hbw7.trans (hb8.mono hbw7.size)
  go_wp2_with fail
  have hl5 := check_any 0 0 none [] 0 w8 (SpAt.nil _ _) (by simp)
  rw [awC0] at hl5
  refine ret_below hl5 fun w9 hb9 => ?_
  clear hl5
  go_wp2_with fail
  go_ret
  exact RetB.bool rfl (hbw8.trans (hb9.mono hbw8.size))
end Go.Proofs.Ytmnkgfimdlhhiaa
