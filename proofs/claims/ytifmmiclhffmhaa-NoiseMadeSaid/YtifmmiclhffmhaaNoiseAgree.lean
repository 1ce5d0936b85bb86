/-
  The noise of layer 38: the program agrees with the reference.
-/
import Derived.Test.YtifmmiclhffmhaaNoiseOdds
namespace Go.Proofs.Ytifmmiclhffmhaa
open Go.RowKit

theorem wLst_len (T A B c : Int) : (wLst T A B c).length ≤ 25 := by
  by_cases h : Good T A B
  · by_cases hc : 0 ≤ c ∧ c ≤ T
    · obtain ⟨h1, h2, _⟩ := h
      rw [wLst_good ⟨h1, h2, by assumption⟩ hc, weightsL_len]; omega
    · rw [wLst, nOK_t h, ← inB_f hc]; simp
  · rw [wLst, nOK_f h]; simp

theorem rclamp_ok (T A B c : Int) (w : World) (h : Good T A B) :
    Calls Try.prog 29 #[nz T A B, .int .i64 c] w (RetB (.int .i64 (clampW T c)) w) := by
  have := rclamp_any T A B c w
  obtain ⟨h1, _⟩ := h
  rw [← rclamp_eq (by omega)] at this; exact this

set_option maxRecDepth 100000 in
set_option maxHeartbeats 2000000 in
theorem agree_any (T A B c z u : Int) (w : World) :
    Calls Try.prog 13 #[nz T A B, .int .i64 c, .int .i64 z, .int .i64 u] w (RetB (.bool true) w) := by
  have hll := wLst_len T A B c
  have hGG : (∃ h : Good T A B, True) ∨ (∃ h : ¬ Good T A B, True) := by
    by_cases h : Good T A B
    · exact .inl ⟨h, trivial⟩
    · exact .inr ⟨h, trivial⟩
  rcases hGG with ⟨hG, _⟩ | ⟨hG, _⟩
  all_goals
    have HG := Lib.hid hG
    clear hG
    go_enter Try.func13, Try.ntmps13
    go_wp2_with fail
    refine (weights_any T A B c _).mono ?_
    rintro e w1 ⟨v, rfl, hb, o, rfl, hown⟩
    obtain ⟨Aw, cw, rfl, hI⟩ := IntsAt.of_own hown rfl
    clear hown
    obtain ⟨hc1, hf1⟩ := bcell hb
    go_wp2_with fail
    refine (rweights_any T A B c _).mono ?_
    rintro e w2 ⟨v, rfl, hb2, o, rfl, hown⟩
    obtain ⟨Av, cv, rfl, hJ⟩ := IntsAt.of_own hown rfl
    clear hown
    replace hI := hI.below hb2
    replace hb := hb.trans (hb2.mono hb.size)
    clear hc1 hf1
    obtain ⟨hc1, hf1⟩ := bcell hb
    go_wp2_with fail
    refine (draw_any T A B c u _).mono ?_
    rintro e w3 ⟨rfl, hb3⟩
    replace hI := hI.below hb3
    replace hJ := hJ.below hb3
    replace hb := hb.trans (hb3.mono hb.size)
    clear hc1 hf1
    obtain ⟨hc1, hf1⟩ := bcell hb
    go_wp2_with fail
    refine (rdraw_any T A B c u _).mono ?_
    rintro e w4 ⟨rfl, hb4⟩
    replace hI := hI.below hb4
    replace hJ := hJ.below hb4
    replace hb := hb.trans (hb4.mono hb.size)
    clear hc1 hf1
    obtain ⟨hc1, hf1⟩ := bcell hb
    go_wp2_with fail
    refine (odds_any T A B c u z _).mono ?_
    rintro e w5 ⟨rfl, hb5⟩
    replace hI := hI.below hb5
    replace hJ := hJ.below hb5
    replace hb := hb.trans (hb5.mono hb.size)
    clear hc1 hf1
    obtain ⟨hc1, hf1⟩ := bcell hb
    go_wp2_with fail
    refine (rodds_any T A B c u z _).mono ?_
    rintro e w6 ⟨rfl, hb6⟩
    replace hI := hI.below hb6
    replace hJ := hJ.below hb6
    replace hb := hb.trans (hb6.mono hb.size)
    clear hc1 hf1
    obtain ⟨hc1, hf1⟩ := bcell hb
    go_wp2_with fail
    have hlt : w.heap.size < w6.heap.size := by have := hb.size; simp at this; omega
    refine wp_region_grew (by kernel_rfl) (by kernel_rfl) ?_
    repeat (go_big_quiet_step ((first
      | (go_at_call 29; first | exact grew_of (rclamp_ok _ _ _ _ _ HG.out) | exact grew_of (rclamp_any _ _ _ _ _))
      | (go_at_call 21; exact grew_of (odds_any _ _ _ _ _ _ _)))))
    refine wpQuiet_nil ?_
    intro w7 hb7
    replace hI := hI.below hb7
    replace hJ := hJ.below hb7
    replace hb := hb.trans (hb7.mono hb.size)
    clear hc1 hf1
    obtain ⟨hc1, hf1⟩ := bcell hb
    go_wp2_with fail
    have hlt7 : w.heap.size < w7.heap.size := by have := hb.size; simp at this; omega
    refine wp_region_grew (by kernel_rfl) (by kernel_rfl) ?_
    repeat (go_big_quiet_step ((first
      | (go_at_call 29; first | exact grew_of (rclamp_ok _ _ _ _ _ HG.out) | exact grew_of (rclamp_any _ _ _ _ _))
      | (go_at_call 25; first | exact grew_of (clamp_any _ _ _ _ _))
      | (go_at_call 22; first | exact grew_of (check_ok _ _ _ _ HG.out) | exact grew_of (check_bad _ _ _ _ HG.out))
      | (go_at_call 30; first | exact grew_of (rcheck_ok _ _ _ _ HG.out) | exact grew_of (rcheck_bad _ _ _ _ HG.out))
      | (go_at_call 10; obtain ⟨g1, g2, g3, g4, g5⟩ := HG.out; exact grew_of (total_ok _ _ _ _ g1 g2 g3 g4 g5))
      | (go_at_call 31; obtain ⟨g1, g2, g3, g4, g5⟩ := HG.out; exact grew_of (rtotal_ok _ _ _ _ g1 g2 g3 g4 g5))
      | (go_at_call 12; exact grew_same (same_refl _ _ _ _ _ _ (hI.below (grewW.below _ _)) (hJ.below (grewW.below _ _)) (by omega)))
      | (go_at_call 28; exact grew_of (rodds_any _ _ _ _ _ _ _)))))
    refine wpQuiet_nil ?_
    intro w8 hb8
    replace hI := hI.below hb8
    replace hJ := hJ.below hb8
    replace hb := hb.trans (hb8.mono hb.size)
    clear hc1 hf1
    obtain ⟨hc1, hf1⟩ := bcell hb
    go_wp2_with fail
    have hlt8 : w.heap.size < w8.heap.size := by have := hb.size; simp at this; omega
    refine wp_region_grew (by kernel_rfl) (by kernel_rfl) ?_
    simp only [List.append]
    repeat (go_big_quiet_step ((first
      | (go_at_call 29; first | exact grew_of (rclamp_ok _ _ _ _ _ HG.out) | exact grew_of (rclamp_any _ _ _ _ _))
      | (go_at_call 25; first | exact grew_of (clamp_any _ _ _ _ _))
      | (go_at_call 22; first | exact grew_of (check_ok _ _ _ _ HG.out) | exact grew_of (check_bad _ _ _ _ HG.out))
      | (go_at_call 30; first | exact grew_of (rcheck_ok _ _ _ _ HG.out) | exact grew_of (rcheck_bad _ _ _ _ HG.out))
      | (go_at_call 10; obtain ⟨g1, g2, g3, g4, g5⟩ := HG.out; exact grew_of (total_ok _ _ _ _ g1 g2 g3 g4 g5))
      | (go_at_call 31; obtain ⟨g1, g2, g3, g4, g5⟩ := HG.out; exact grew_of (rtotal_ok _ _ _ _ g1 g2 g3 g4 g5))
      | (go_at_call 12; exact grew_same (same_refl _ _ _ _ _ _ (hI.below (grewW.below _ _)) (hJ.below (grewW.below _ _)) (by omega)))
      | (go_at_call 28; exact grew_of (rodds_any _ _ _ _ _ _ _)))))
    refine wpQuiet_nil ?_
    intro w9 hb9
    replace hb := hb.trans (hb9.mono hb.size)
    clear hc1 hf1
    go_wp2
    go_ret
    exact RetB.bool rfl (((Below.refl _ _).alloc (Nat.le_refl _) _).trans (hb.mono (by simp)))
end Go.Proofs.Ytifmmiclhffmhaa
