/-
  The sanity check of layer 38 is true.
-/
import Derived.Test.YtifmmiclhffmhaaNoiseAgree
namespace Go.Proofs.Ytifmmiclhffmhaa
open Go.RowKit

theorem ints_three {w : World} {A : Option Addr} {x y z : Int} (h : IntsAt w A [x, y, z]) :
    ∃ b off, A = some ⟨b, off, none⟩ ∧ b < w.heap.size ∧ w.cell? ⟨b, off, none⟩ = some (.int .i64 x) ∧ w.cell? ⟨b, off + 1, none⟩ = some (.int .i64 y) ∧ w.cell? ⟨b, off + 2, none⟩ = some (.int .i64 z) := by
  obtain ⟨b, off, rfl, hb, h0⟩ := h 0 (by simp)
  obtain ⟨b1, off1, e1, _, h1⟩ := h 1 (by simp)
  obtain ⟨b2, off2, e2, _, h2⟩ := h 2 (by simp)
  cases e1; cases e2
  exact ⟨b, off, rfl, hb, h0, h1, h2⟩

theorem aw1 : wLst 2 1 2 0 = [8, 2, 2] := by decide +kernel
theorem aw2 : wLst 2 1 2 1 = [4, 4, 4] := by decide +kernel
theorem aw3 : wErr 2 1 2 0 = 0 := by decide +kernel
theorem aw4 : wErr 2 1 2 1 = 0 := by decide +kernel
theorem aw5 : drawV 2 1 2 1 7 = 1 := by decide +kernel
theorem aw6 : drawE 2 1 2 1 7 = 0 := by decide +kernel
theorem aw7 : totalW 2 1 2 = 12 := by decide +kernel
theorem aw8 : clampW 2 9 = 2 := by decide +kernel
theorem awG : Good 2 1 2 := by unfold Good; omega

set_option maxHeartbeats 1000000 in
theorem awake_any (w : World) : Calls Try.prog 9 #[] w (RetB (.bool true) w) := by
  go_enter Try.func9, Try.ntmps9
  go_wp2_with fail
  refine (weights_any 2 1 2 0 _).mono ?_
  rintro e w1 ⟨v, rfl, hb, o, rfl, hown⟩
  rw [aw1] at hown
  rw [aw3]
  obtain ⟨Aw, cw, rfl, hI⟩ := IntsAt.of_own hown rfl
  clear hown
  obtain ⟨hc1, hf1⟩ := bcell hb
  go_wp2_with fail
  refine (weights_any 2 1 2 1 _).mono ?_
  rintro e w2 ⟨v, rfl, hb2, o, rfl, hown⟩
  rw [aw2] at hown
  rw [aw4]
  obtain ⟨Av, cv, rfl, hJ⟩ := IntsAt.of_own hown rfl
  clear hown
  replace hI := hI.below hb2
  replace hb := hb.trans (hb2.mono hb.size)
  clear hc1 hf1
  obtain ⟨hc1, hf1⟩ := bcell hb
  go_wp2_with fail
  refine (draw_any 2 1 2 1 7 _).mono ?_
  rintro e w3 ⟨rfl, hb3⟩
  rw [aw5, aw6]
  replace hI := hI.below hb3
  replace hJ := hJ.below hb3
  replace hb := hb.trans (hb3.mono hb.size)
  clear hc1 hf1 hb2 hb3
  obtain ⟨hc1, hf1⟩ := bcell hb
  obtain ⟨b, off, rfl, hlt, i0, i1, i2⟩ := ints_three hI
  obtain ⟨b', off', rfl, hlt', j0, j1, j2⟩ := ints_three hJ
  clear hI hJ
  go_wp2_with fail
  refine (total_ok 2 1 2 _ (by omega) (by omega) (by omega) (by omega) (by omega)).mono ?_
  rintro e w4 ⟨rfl, hb4⟩
  rw [aw7]
  replace hb := hb.trans (hb4.mono hb.size)
  clear hc1 hf1 i0 i1 i2 j0 j1 j2
  obtain ⟨hc1, hf1⟩ := bcell hb
  go_wp2_with fail
  refine (clamp_any 2 1 2 9 _).mono ?_
  rintro e w5 ⟨rfl, hb5⟩
  rw [aw8]
  replace hb := hb.trans (hb5.mono hb.size)
  clear hc1 hf1
  obtain ⟨hc1, hf1⟩ := bcell hb
  go_wp2_with fail
  refine (check_ok 2 1 2 _ awG).mono ?_
  rintro e w6 ⟨rfl, hb6⟩
  replace hb := hb.trans (hb6.mono hb.size)
  go_wp2_with fail
  go_ret
  exact RetB.bool rfl (((Below.refl _ _).alloc (Nat.le_refl _) _).trans (hb.mono (by simp)))
end Go.Proofs.Ytifmmiclhffmhaa
