/-
  The noise of layer 38: the odds.
-/
import Derived.Test.YtifmmiclhffmhaaNoiseDraw
namespace Go.Proofs.Ytifmmiclhffmhaa
open Go.RowKit

theorem in_t (n l h : Int) (w : World) (q : l ≤ n ∧ n ≤ h) : Calls Try.prog 23 #[.int .i64 n, .int .i64 l, .int .i64 h] w (Ret (.bool true) w) := by
  have := in_any n l h w; rw [← inB_t q] at this; exact this
theorem in_f (n l h : Int) (w : World) (q : ¬ (l ≤ n ∧ n ≤ h)) : Calls Try.prog 23 #[.int .i64 n, .int .i64 l, .int .i64 h] w (Ret (.bool false) w) := by
  have := in_any n l h w; rw [← inB_f q] at this; exact this
theorem rin_t (T A B c : Int) (w : World) (q : 0 ≤ c ∧ c ≤ T) : Calls Try.prog 32 #[nz T A B, .int .i64 c] w (RetB (.bool true) w) := by
  have := rin_any T A B c w; rw [← inB_t q] at this; exact this
theorem rin_f (T A B c : Int) (w : World) (q : ¬ (0 ≤ c ∧ c ≤ T)) : Calls Try.prog 32 #[nz T A B, .int .i64 c] w (RetB (.bool false) w) := by
  have := rin_any T A B c w; rw [← inB_f q] at this; exact this
theorem check_ok (T A B : Int) (w : World) (h : Good T A B) : Calls Try.prog 22 #[nz T A B] w (RetB (.int .i64 0) w) := by
  have := check_any T A B w; rw [checkN_ok h] at this; exact this
theorem check_bad (T A B : Int) (w : World) (h : ¬ Good T A B) : Calls Try.prog 22 #[nz T A B] w (RetB (.int .i64 57) w) := by
  have := check_any T A B w; rw [checkN_bad h] at this; exact this
theorem rcheck_ok (T A B : Int) (w : World) (h : Good T A B) : Calls Try.prog 30 #[nz T A B] w (RetB (.int .i64 0) w) := by
  have := rcheck_any T A B w; rw [checkN_ok h] at this; exact this
theorem rcheck_bad (T A B : Int) (w : World) (h : ¬ Good T A B) : Calls Try.prog 30 #[nz T A B] w (RetB (.int .i64 57) w) := by
  have := rcheck_any T A B w; rw [checkN_bad h] at this; exact this

def InT (T a : Int) : Prop := 0 ≤ a ∧ a ≤ T
def oddsX (T A B a b z : Int) : Int := weightW T A B a z / gcdI (weightW T A B a z) (weightW T A B b z)
def oddsY (T A B a b z : Int) : Int := weightW T A B b z / gcdI (weightW T A B a z) (weightW T A B b z)
def oddsK (T A B a b z : Int) : Bool := nOK T A B && (inB a 0 T && (inB b 0 T && inB z 0 T))
def oddsE (T A B a b z : Int) : Int := if oddsK T A B a b z then 0 else if nOK T A B then 2 else 57
def oddsA (T A B a b z : Int) : Int := if oddsK T A B a b z then oddsX T A B a b z else 0
def oddsB (T A B a b z : Int) : Int := if oddsK T A B a b z then oddsY T A B a b z else 0
abbrev oddsT (T A B a b z : Int) : Value := .tuple #[.int .i64 (oddsA T A B a b z), .int .i64 (oddsB T A B a b z), .int .i64 (oddsE T A B a b z)]
theorem oddsT_bad {T A B a b z : Int} (h : ¬ Good T A B) : .tuple #[.int .i64 0, .int .i64 0, .int .i64 57] = oddsT T A B a b z := by
  have e : oddsK T A B a b z = false := by simp [oddsK, nOK_f h]
  simp [oddsT, oddsA, oddsB, oddsE, e, nOK_f h]
theorem oddsT_out {T A B a b z : Int} (h : Good T A B) (hi : ¬ (InT T a ∧ InT T b ∧ InT T z)) : .tuple #[.int .i64 0, .int .i64 0, .int .i64 2] = oddsT T A B a b z := by
  have e : oddsK T A B a b z = false := by
    rw [← Bool.not_eq_true]
    simp only [oddsK, inB, Bool.and_eq_true, decide_eq_true_eq]; exact fun q => hi q.2
  simp [oddsT, oddsA, oddsB, oddsE, e, nOK_t h]
theorem oddsT_in {T A B a b z : Int} (h : Good T A B) (hi : InT T a ∧ InT T b ∧ InT T z) : .tuple #[.int .i64 (oddsX T A B a b z), .int .i64 (oddsY T A B a b z), .int .i64 0] = oddsT T A B a b z := by
  have e : oddsK T A B a b z = true := by
    simp only [oddsK, inB, Bool.and_eq_true, decide_eq_true_eq]; exact ⟨nOK_t h, hi⟩
  simp [oddsT, oddsA, oddsB, oddsE, e]
theorem weightW_range {T A B a z : Int} (h : Good T A B) (ha : InT T a) (hz : InT T z) : 1 ≤ weightW T A B a z ∧ weightW T A B a z ≤ 1125899906842624 := by
  have hw := (WOK.of h ha).pos z.toNat
  obtain ⟨g1, g2, g3, g4, g5⟩ := h
  obtain ⟨z1, z2⟩ := hz
  rw [weightsL_len, nth_weightsL _ _ _ _ _ _ (by omega), show ((z.toNat : Nat) : Int) = z by omega] at hw
  exact hw (by omega)
theorem gcdI_pos {x y : Int} (h : 1 ≤ x) : 1 ≤ gcdI x y := by
  have := Int.gcd_pos_of_ne_zero_left (a := x) y (by omega)
  unfold gcdI; omega

set_option maxHeartbeats 400000 in
theorem odds_bad (T A B a b z : Int) (w : World) (hG : ¬ Good T A B) :
    Calls Try.prog 21 #[nz T A B, .int .i64 a, .int .i64 b, .int .i64 z] w (RetB (oddsT T A B a b z) w) := by
  have HG := Lib.hid hG
  clear hG
  go_enter Try.func21, Try.ntmps21
  go_wp2_with fail
  refine (check_bad T A B _ HG.out).mono ?_
  rintro e w1 ⟨rfl, hb⟩
  go_wp2
  go_ret3
  exact RetB.val (oddsT_bad HG.out) (((Below.refl _ _).alloc (Nat.le_refl _) _).trans (hb.mono (by simp)))

set_option maxHeartbeats 400000 in
theorem odds_out (T A B a b z : Int) (w : World) (hG : Good T A B) (hi : ¬ (InT T a ∧ InT T b ∧ InT T z)) :
    Calls Try.prog 21 #[nz T A B, .int .i64 a, .int .i64 b, .int .i64 z] w (RetB (oddsT T A B a b z) w) := by
  have HG := Lib.hid hG
  have HO := Lib.hid (oddsT_out hG hi)
  unfold InT at hi
  clear hG
  have hcase : ¬ (0 ≤ a ∧ a ≤ T) ∨ ((0 ≤ a ∧ a ≤ T) ∧ ¬ (0 ≤ b ∧ b ≤ T)) ∨ ((0 ≤ a ∧ a ≤ T) ∧ (0 ≤ b ∧ b ≤ T) ∧ ¬ (0 ≤ z ∧ z ≤ T)) := by omega
  clear hi
  rcases hcase with h | ⟨⟨a1, a2⟩, h⟩ | ⟨⟨a1, a2⟩, ⟨b1, b2⟩, h⟩
  all_goals
    go_enter Try.func21, Try.ntmps21
    go_wp2_with fail
    refine (check_ok T A B _ HG.out).mono ?_
    rintro e w1 ⟨rfl, hb⟩
    obtain ⟨hc1, hf1⟩ := bcell hb
    go_wp2_with (go_at_call 23; (first | refine (in_t _ _ _ _ (by omega)).mono ?_ | refine (in_f _ _ _ _ (by omega)).mono ?_); rintro e w2 ⟨rfl, rfl⟩)
    go_ret3
    exact RetB.val HO.out (((Below.refl _ _).alloc (Nat.le_refl _) _).trans (hb.mono (by simp)))

set_option maxHeartbeats 800000 in
theorem odds_in (T A B a b z : Int) (w : World) (hG : Good T A B) (hi : InT T a ∧ InT T b ∧ InT T z) :
    Calls Try.prog 21 #[nz T A B, .int .i64 a, .int .i64 b, .int .i64 z] w (RetB (oddsT T A B a b z) w) := by
  have HG := Lib.hid hG
  have HO := Lib.hid (oddsT_in hG hi)
  obtain ⟨x1, x2⟩ := weightW_range hG hi.1 hi.2.2
  obtain ⟨y1, y2⟩ := weightW_range hG hi.2.1 hi.2.2
  have hd := gcdI_pos (y := weightW T A B b z) x1
  obtain ⟨g1, g2, g3, g4, g5⟩ := hG
  obtain ⟨⟨a1, a2⟩, ⟨b1, b2⟩, ⟨z1, z2⟩⟩ := hi
  go_enter Try.func21, Try.ntmps21
  go_wp2_with fail
  refine (check_ok T A B _ HG.out).mono ?_
  rintro e w1 ⟨rfl, hb⟩
  obtain ⟨hc1, hf1⟩ := bcell hb
  go_wp2_with (go_at_call 23; (first | refine (in_t _ _ _ _ (by omega)).mono ?_ | refine (in_f _ _ _ _ (by omega)).mono ?_); rintro e w2 ⟨rfl, rfl⟩)
  have hlt : w.heap.size < w2.heap.size := by have := hb.size; simp at this; omega
  refine wp_region_grew (by kernel_rfl) (by kernel_rfl) ?_
  repeat (go_big_quiet_step ((go_at_call 24; exact grew_of (weight_any _ _ _ _ _ _ g1 g2 g3 g4 g5 (by omega) (by omega) (by omega) (by omega)))))
  refine wpQuiet_nil ?_
  intro w5 hb5
  replace hb := hb.trans (hb5.mono hb.size)
  go_wp2_with (go_at_call 34; refine (common_any _ _ _ (by omega) (by omega) (by omega) (by omega)).mono ?_; rintro e w6 ⟨rfl, hb6⟩; replace hb := hb.trans (hb6.mono hb.size))
  go_quiet (fail)
  go_wp2
  go_ret3
  refine RetB.val HO.out (((Below.refl _ _).alloc (Nat.le_refl _) _).trans ((hb.mono (by simp)).trans ⟨rfl, rfl, rfl, Nat.le_refl _, fun _ _ => rfl⟩))

theorem odds_any (T A B a b z : Int) (w : World) :
    Calls Try.prog 21 #[nz T A B, .int .i64 a, .int .i64 b, .int .i64 z] w (RetB (oddsT T A B a b z) w) := by
  by_cases h : Good T A B
  · by_cases hc : InT T a ∧ InT T b ∧ InT T z
    · exact odds_in T A B a b z w h hc
    · exact odds_out T A B a b z w h hc
  · exact odds_bad T A B a b z w h

set_option maxHeartbeats 400000 in
theorem rodds_bad (T A B a b z : Int) (w : World) (hG : ¬ Good T A B) :
    Calls Try.prog 28 #[nz T A B, .int .i64 a, .int .i64 b, .int .i64 z] w (RetB (oddsT T A B a b z) w) := by
  have HG := Lib.hid hG
  clear hG
  go_enter Try.func28, Try.ntmps28
  go_wp2_with fail
  refine (rcheck_bad T A B _ HG.out).mono ?_
  rintro e w1 ⟨rfl, hb⟩
  go_wp2
  go_ret3
  exact RetB.val (oddsT_bad HG.out) (((Below.refl _ _).alloc (Nat.le_refl _) _).trans (hb.mono (by simp)))

set_option maxHeartbeats 400000 in
theorem rodds_out (T A B a b z : Int) (w : World) (hG : Good T A B) (hi : ¬ (InT T a ∧ InT T b ∧ InT T z)) :
    Calls Try.prog 28 #[nz T A B, .int .i64 a, .int .i64 b, .int .i64 z] w (RetB (oddsT T A B a b z) w) := by
  have HG := Lib.hid hG
  have HO := Lib.hid (oddsT_out hG hi)
  unfold InT at hi
  clear hG
  have hcase : ¬ (0 ≤ a ∧ a ≤ T) ∨ ((0 ≤ a ∧ a ≤ T) ∧ ¬ (0 ≤ b ∧ b ≤ T)) ∨ ((0 ≤ a ∧ a ≤ T) ∧ (0 ≤ b ∧ b ≤ T) ∧ ¬ (0 ≤ z ∧ z ≤ T)) := by omega
  clear hi
  rcases hcase with h | ⟨⟨a1, a2⟩, h⟩ | ⟨⟨a1, a2⟩, ⟨b1, b2⟩, h⟩
  all_goals
    go_enter Try.func28, Try.ntmps28
    go_wp2_with fail
    refine (rcheck_ok T A B _ HG.out).mono ?_
    rintro e w1 ⟨rfl, hb⟩
    obtain ⟨hc1, hf1⟩ := bcell hb
    go_wp2_with (go_at_call 32; (first | refine (rin_t _ _ _ _ _ (by omega)).mono ?_ | refine (rin_f _ _ _ _ _ (by omega)).mono ?_); rintro e w2 ⟨rfl, hb2⟩; replace hb := hb.trans (hb2.mono hb.size); obtain ⟨hc1, hf1⟩ := bcell hb)
    go_ret3
    exact RetB.val HO.out (((Below.refl _ _).alloc (Nat.le_refl _) _).trans (hb.mono (by simp)))

set_option maxHeartbeats 800000 in
theorem rodds_in (T A B a b z : Int) (w : World) (hG : Good T A B) (hi : InT T a ∧ InT T b ∧ InT T z) :
    Calls Try.prog 28 #[nz T A B, .int .i64 a, .int .i64 b, .int .i64 z] w (RetB (oddsT T A B a b z) w) := by
  have HG := Lib.hid hG
  have HO := Lib.hid (oddsT_in hG hi)
  obtain ⟨x1, x2⟩ := weightW_range hG hi.1 hi.2.2
  obtain ⟨y1, y2⟩ := weightW_range hG hi.2.1 hi.2.2
  have hd := gcdI_pos (y := weightW T A B b z) x1
  obtain ⟨g1, g2, g3, g4, g5⟩ := hG
  obtain ⟨⟨a1, a2⟩, ⟨b1, b2⟩, ⟨z1, z2⟩⟩ := hi
  go_enter Try.func28, Try.ntmps28
  go_wp2_with fail
  refine (rcheck_ok T A B _ HG.out).mono ?_
  rintro e w1 ⟨rfl, hb⟩
  obtain ⟨hc1, hf1⟩ := bcell hb
  go_wp2_with (go_at_call 32; (first | refine (rin_t _ _ _ _ _ (by omega)).mono ?_ | refine (rin_f _ _ _ _ _ (by omega)).mono ?_); rintro e w2 ⟨rfl, hb2⟩; replace hb := hb.trans (hb2.mono hb.size); obtain ⟨hc1, hf1⟩ := bcell hb)
  have hlt : w.heap.size < w2.heap.size := by have := hb.size; simp at this; omega
  refine wp_region_grew (by kernel_rfl) (by kernel_rfl) ?_
  repeat (go_big_quiet_step ((go_at_call 33; exact grew_of (rweight_any _ _ _ _ _ _ g1 g2 g3 g4 g5 (by omega) (by omega) (by omega) (by omega)))))
  refine wpQuiet_nil ?_
  intro w5 hb5
  replace hb := hb.trans (hb5.mono hb.size)
  go_wp2_with (go_at_call 35; refine (rgcd_any _ _ _ (by omega) (by omega) (by omega) (by omega)).mono ?_; rintro e w6 ⟨rfl, hb6⟩; replace hb := hb.trans (hb6.mono hb.size))
  go_quiet (fail)
  go_wp2
  go_ret3
  refine RetB.val HO.out (((Below.refl _ _).alloc (Nat.le_refl _) _).trans ((hb.mono (by simp)).trans ⟨rfl, rfl, rfl, Nat.le_refl _, fun _ _ => rfl⟩))

theorem rodds_any (T A B a b z : Int) (w : World) :
    Calls Try.prog 28 #[nz T A B, .int .i64 a, .int .i64 b, .int .i64 z] w (RetB (oddsT T A B a b z) w) := by
  by_cases h : Good T A B
  · by_cases hc : InT T a ∧ InT T b ∧ InT T z
    · exact rodds_in T A B a b z w h hc
    · exact rodds_out T A B a b z w h hc
  · exact rodds_bad T A B a b z w h
end Go.Proofs.Ytifmmiclhffmhaa
