/-
  The noise of layer 38: contracts of the functions that are built of the first ones.
-/
import Derived.Test.YtifmmiclhffmhaaNoiseA
import Derived.Test.YtifmmiclhffmhaaKit
namespace Go.Proofs.Ytifmmiclhffmhaa
open Go.RowKit

def totalW (T A B : Int) : Int := wrap64 ((A + B) * powW B T.toNat)

set_option maxHeartbeats 400000 in
theorem total_ok (T A B : Int) (w : World) (ht : 1 ≤ T) (ht2 : T ≤ 24) (hA : 1 ≤ A) (hAB : A < B) (hB : B ≤ 4) :
    Calls Try.prog 10 #[nz T A B] w (RetB (.int .i64 (totalW T A B)) w) := by
  have HCK := Lib.hid (checkN_ok (T := T) (A := A) (B := B) (by omega))
  go_enter Try.func10, Try.ntmps10
  go_wp2_with fail
  refine (check_any T A B _).mono ?_
  rintro e w1 ⟨rfl, hb⟩
  rw [HCK.out]
  obtain ⟨hc1, hf1⟩ := bcell hb
  go_wp2
  go_quiet ((go_at_call 26; exact Calls.quiet_of_same (power_any _ _ _ (by omega))))
  go_wp2
  go_ret
  exact RetB.int rfl (((Below.refl _ _).alloc (Nat.le_refl _) _).trans ((hb.mono (by simp)).trans ⟨rfl, rfl, rfl, Nat.le_refl _, fun _ _ => rfl⟩))

set_option maxHeartbeats 400000 in
theorem total_bad (T A B : Int) (w : World) (h : ¬ (1 ≤ T ∧ T ≤ 24 ∧ 1 ≤ A ∧ A < B ∧ B ≤ 4)) :
    Calls Try.prog 10 #[nz T A B] w (RetB (.int .i64 0) w) := by
  have HCK := Lib.hid (checkN_bad h)
  clear h
  go_enter Try.func10, Try.ntmps10
  go_wp2_with fail
  refine (check_any T A B _).mono ?_
  rintro e w1 ⟨rfl, hb⟩
  rw [HCK.out]
  go_wp2
  go_ret
  exact RetB.int rfl (((Below.refl _ _).alloc (Nat.le_refl _) _).trans (hb.mono (by simp)))

set_option maxHeartbeats 400000 in
theorem rtotal_ok (T A B : Int) (w : World) (ht : 1 ≤ T) (ht2 : T ≤ 24) (hA : 1 ≤ A) (hAB : A < B) (hB : B ≤ 4) :
    Calls Try.prog 31 #[nz T A B] w (RetB (.int .i64 (totalW T A B)) w) := by
  have HCK := Lib.hid (checkN_ok (T := T) (A := A) (B := B) (by omega))
  go_enter Try.func31, Try.ntmps31
  go_wp2_with fail
  refine (rcheck_any T A B _).mono ?_
  rintro e w1 ⟨rfl, hb⟩
  rw [HCK.out]
  obtain ⟨hc1, hf1⟩ := bcell hb
  go_wp2
  go_quiet ((go_at_call 36; exact Calls.quiet_of_same (rpower_any _ _ _ (by omega))))
  go_wp2
  go_ret
  exact RetB.int rfl (((Below.refl _ _).alloc (Nat.le_refl _) _).trans ((hb.mono (by simp)).trans ⟨rfl, rfl, rfl, Nat.le_refl _, fun _ _ => rfl⟩))

set_option maxHeartbeats 400000 in
theorem rtotal_bad (T A B : Int) (w : World) (h : ¬ (1 ≤ T ∧ T ≤ 24 ∧ 1 ≤ A ∧ A < B ∧ B ≤ 4)) :
    Calls Try.prog 31 #[nz T A B] w (RetB (.int .i64 0) w) := by
  have HCK := Lib.hid (checkN_bad h)
  clear h
  go_enter Try.func31, Try.ntmps31
  go_wp2_with fail
  refine (rcheck_any T A B _).mono ?_
  rintro e w1 ⟨rfl, hb⟩
  rw [HCK.out]
  go_wp2
  go_ret
  exact RetB.int rfl (((Below.refl _ _).alloc (Nat.le_refl _) _).trans (hb.mono (by simp)))

set_option maxHeartbeats 400000 in
theorem rin_any (T A B c : Int) (w : World) :
    Calls Try.prog 32 #[nz T A B, .int .i64 c] w (RetB (.bool (inB c 0 T)) w) := by
  by_cases h1 : 0 ≤ c <;> by_cases h2 : c ≤ T
  all_goals
    go_enter Try.func32, Try.ntmps32
    go_wp2
    go_ret
    refine RetB.bool ?_ ((Below.refl _ _).alloc (Nat.le_refl _) _)
    first | exact (inB_t ⟨h1, h2⟩) | exact (inB_f (by omega))

def clampW (T c : Int) : Int := min (max c 0) T
set_option maxHeartbeats 400000 in
theorem clamp_any (T A B c : Int) (w : World) :
    Calls Try.prog 25 #[nz T A B, .int .i64 c] w (RetB (.int .i64 (clampW T c)) w) := by
  go_enter Try.func25, Try.ntmps25
  go_wp2
  all_goals go_ret
  all_goals refine RetB.int (by unfold clampW; omega) ((Below.refl _ _).alloc (Nat.le_refl _) _)
def rclampW (T c : Int) : Int := max 0 (min T c)
theorem rclamp_eq {T c : Int} (h : 0 ≤ T) : clampW T c = rclampW T c := by unfold clampW rclampW; omega
set_option maxHeartbeats 400000 in
theorem rclamp_any (T A B c : Int) (w : World) :
    Calls Try.prog 29 #[nz T A B, .int .i64 c] w (RetB (.int .i64 (rclampW T c)) w) := by
  go_enter Try.func29, Try.ntmps29
  go_wp2
  all_goals go_ret
  all_goals refine RetB.int (by unfold rclampW; omega) ((Below.refl _ _).alloc (Nat.le_refl _) _)

def gcdI (x y : Int) : Int := (Int.gcd x y : Nat)
theorem gcd_step (a b : Int) (ha : 0 ≤ a) (hb : 0 ≤ b) : Int.gcd b (a % b) = Int.gcd a b := by
  obtain ⟨x, rfl⟩ := Int.eq_ofNat_of_zero_le ha
  obtain ⟨y, rfl⟩ := Int.eq_ofNat_of_zero_le hb
  rw [← Int.natCast_emod, Int.gcd_natCast_natCast, Int.gcd_natCast_natCast, Nat.gcd_comm, ← Nat.gcd_rec, Nat.gcd_comm]

set_option maxHeartbeats 400000 in
theorem common_any (x y : Int) (w : World) (hx : 0 ≤ x) (hx2 : x ≤ 9223372036854775807) (hy : 0 ≤ y) (hy2 : y ≤ 9223372036854775807) :
    Calls Try.prog 34 #[.int .i64 x, .int .i64 y] w (RetB (.int .i64 (gcdI x y)) w) := by
  go_enter Try.func34, Try.ntmps34
  go_wp2
  go_loopw [0, 1] (fun p q wr => ∃ a b : Int, 0 ≤ a ∧ a ≤ 9223372036854775807 ∧ 0 ≤ b ∧ b ≤ 9223372036854775807 ∧ p = .int .i64 a ∧ q = .int .i64 b ∧ gcdI a b = gcdI x y ∧ Below w.heap.size w wr) (fun _ q _ => (intOf q).toNat)
  case atStart => exact ⟨x, y, hx, hx2, hy, hy2, rfl, rfl, rfl, Below.refl _ _⟩
  case round =>
    obtain ⟨a, b, ha, ha2, hb, hb2, rfl, rfl, hg, hbw⟩ := hrel
    have HG := Lib.hid hg
    clear hg
    by_cases h : b = 0
    · subst h
      go_wp2
      go_ret
      exact RetB.int (by rw [← HG.out]; simp [gcdI]; omega) hbw
    · have hb1 : 1 ≤ b := by omega
      have hm := Int.emod_lt_of_pos a (b := b) (by omega)
      have hm2 := Int.emod_nonneg a (b := b) (by omega)
      have hne : (b != 0) = true := by simp; omega
      clear h
      go_wp2
      go_quiet (fail)
      go_wp2
      go_roundw
      case rel => exact ⟨b, a % b, by omega, by omega, by omega, by omega, rfl, rfl, by rw [← HG.out]; unfold gcdI; rw [gcd_step a b ha hb], hbw.trans ⟨rfl, rfl, rfl, Nat.le_refl _, fun _ _ => rfl⟩⟩
      case measure => simp [intOf]; omega

set_option maxHeartbeats 400000 in
theorem rgcd_any (x y : Int) (w : World) (hx : 0 ≤ x) (hx2 : x ≤ 9223372036854775807) (hy : 0 ≤ y) (hy2 : y ≤ 9223372036854775807) :
    Calls Try.prog 35 #[.int .i64 x, .int .i64 y] w (RetB (.int .i64 (gcdI x y)) w) := by
  go_enter Try.func35, Try.ntmps35
  go_wp2
  go_loopw [0, 1] (fun p q wr => ∃ a b : Int, 0 ≤ a ∧ a ≤ 9223372036854775807 ∧ 0 ≤ b ∧ b ≤ 9223372036854775807 ∧ p = .int .i64 a ∧ q = .int .i64 b ∧ gcdI a b = gcdI x y ∧ Below w.heap.size w wr) (fun _ q _ => (intOf q).toNat)
  case atStart => exact ⟨x, y, hx, hx2, hy, hy2, rfl, rfl, rfl, Below.refl _ _⟩
  case round =>
    obtain ⟨a, b, ha, ha2, hb, hb2, rfl, rfl, hg, hbw⟩ := hrel
    have HG := Lib.hid hg
    clear hg
    by_cases h : b = 0
    · subst h
      go_wp2
      go_ret
      exact RetB.int (by rw [← HG.out]; simp [gcdI]; omega) hbw
    · have hb1 : 1 ≤ b := by omega
      have hm := Int.emod_lt_of_pos a (b := b) (by omega)
      have hm2 := Int.emod_nonneg a (b := b) (by omega)
      have hne : (b != 0) = true := by simp; omega
      clear h
      go_wp2
      go_quiet (fail)
      go_wp2
      go_roundw
      case rel => exact ⟨b, a % b, by omega, by omega, by omega, by omega, rfl, rfl, by rw [← HG.out]; unfold gcdI; rw [gcd_step a b ha hb], hbw.trans ⟨rfl, rfl, rfl, Nat.le_refl _, fun _ _ => rfl⟩⟩
      case measure => simp [intOf]; omega

def weightsL (T A B c : Int) (n : Nat) : List Int := (List.range n).map (fun z : Nat => weightW T A B c (z : Int))
theorem weightsL_succ (T A B c : Int) (n : Nat) : weightsL T A B c (n + 1) = weightsL T A B c n ++ [weightW T A B c n] := by
  unfold weightsL; rw [List.range_succ, List.map_append]; rfl
theorem weightsL_len (T A B c : Int) (n : Nat) : (weightsL T A B c n).length = n := by simp [weightsL]
/-- What Weights returns: the error and the list. -/
def wErr (T A B c : Int) : Int := if nOK T A B then (if inB c 0 T then 0 else 2) else 57
def wLst (T A B c : Int) : List Int := if nOK T A B then (if inB c 0 T then weightsL T A B c (T + 1).toNat else []) else []
def WeightsP (T A B c : Int) (w : World) : Ending → World → Prop :=
  RetP (fun v w' => ∃ u, v = .tuple #[u, .int .i64 (wErr T A B c)] ∧ w'.ownsRow w.heap.size 3 1 u (wLst T A B c).length ((wLst T A B c).map (Value.int .i64))) w
def Good (T A B : Int) : Prop := 1 ≤ T ∧ T ≤ 24 ∧ 1 ≤ A ∧ A < B ∧ B ≤ 4
theorem nOK_t {T A B : Int} (h : Good T A B) : nOK T A B = true := decide_eq_true h
theorem nOK_f {T A B : Int} (h : ¬ Good T A B) : nOK T A B = false := decide_eq_false h
theorem WeightsP.bad {T A B c : Int} {w w' : World} (h : ¬ Good T A B) (hb : Below w.heap.size w w') : WeightsP T A B c w (.returned (.tuple #[.slice none 0 0, .int .i64 57])) w' := by
  refine RetP.mk hb ⟨.slice none 0 0, ?_, ?_⟩
  · rw [wErr, nOK_f h]; rfl
  · rw [wLst, nOK_f h]; exact World.ownsRow_nil _ _ _ _
theorem WeightsP.out {T A B c : Int} {w w' : World} (h : Good T A B) (hc : ¬ (0 ≤ c ∧ c ≤ T)) (hb : Below w.heap.size w w') : WeightsP T A B c w (.returned (.tuple #[.slice none 0 0, .int .i64 2])) w' := by
  refine RetP.mk hb ⟨.slice none 0 0, ?_, ?_⟩
  · rw [wErr, nOK_t h, ← inB_f hc]; rfl
  · rw [wLst, nOK_t h, ← inB_f hc]; exact World.ownsRow_nil _ _ _ _
theorem WeightsP.good {T A B c : Int} {w w' : World} {u : Value} (h : Good T A B) (hc : 0 ≤ c ∧ c ≤ T) (hb : Below w.heap.size w w')
    (ho : w'.ownsRow w.heap.size 3 1 u (T + 1).toNat ((weightsL T A B c (T + 1).toNat).map (Value.int .i64))) : WeightsP T A B c w (.returned (.tuple #[u, .int .i64 0])) w' := by
  refine RetP.mk hb ⟨u, ?_, ?_⟩
  · rw [wErr, nOK_t h, ← inB_t hc]; rfl
  · have e : wLst T A B c = weightsL T A B c (T + 1).toNat := by rw [wLst, nOK_t h, ← inB_t hc]; rfl
    rw [e, weightsL_len]; exact ho

set_option maxHeartbeats 400000 in
theorem weights_any_good (T A B c : Int) (w : World) (h : Good T A B) (hc : 0 ≤ c) (hcT : c ≤ T) :
    Calls Try.prog 8 #[nz T A B, .int .i64 c] w (WeightsP T A B c w) := by
  have HG := Lib.hid h
  obtain ⟨ht, ht2, hA, hAB, hB⟩ := h
  have HCK := Lib.hid (checkN_ok (T := T) (A := A) (B := B) (by omega))
  have HIN := Lib.hid (inB_t (n := c) (l := 0) (h := T) (by omega)).symm
  go_enter Try.func8, Try.ntmps8
  go_wp2_with fail
  refine (check_any T A B _).mono ?_
  rintro e w1 ⟨rfl, hb⟩
  rw [HCK.out]
  obtain ⟨hc1, hf1⟩ := bcell hb
  go_wp2_with fail
  refine (in_any c 0 T _).mono ?_
  rintro e w2 ⟨rfl, rfl⟩
  rw [HIN.out]
  go_wp2_with fail
  go_loopw [6, 21] (fun o i wr => ∃ k : Nat, (k : Int) ≤ T + 1 ∧ i = .int .i64 k ∧ wr.ownsRow (w.heap.size + 1) 3 1 o k ((weightsL T A B c k).map (Value.int .i64)) ∧ Below (w.heap.size + 1) w2 wr) (fun _ i _ => (T + 1).toNat - (intOf i).toNat)
  case atStart => exact ⟨0, by omega, rfl, World.ownsRow_nil _ _ _ _, Below.refl _ _⟩
  case round =>
    obtain ⟨k, hk, rfl, hown, hbw⟩ := hrel
    have hz := hbw.size
    have hz2 := hb.size
    simp at hz2
    obtain ⟨hc2, hf2⟩ := bcell hbw
    by_cases hlt : (k : Int) < T + 1
    · go_wp2_with fail
      refine (weight_any T A B c k _ ht ht2 hA hAB hB hc hcT (by omega) (by omega)).mono ?_
      rintro e w3 ⟨rfl, hb3⟩
      have hown3 := own_below hown hb3
      have hz3 := hb3.size
      have HWS := Lib.hid (weightsL_succ T A B c k)
      go_wp2_with (at_builtin; refine app_one rfl (.tmp 24) (.tmp 29) 25 rfl (base := w.heap.size + 1) Try.underlying25 info_int rfl rfl hown3 rfl rfl (by simp only [maxLen]; omega) (by omega) (by omega) ?_; intro v4 w4 hown4 hg4 hb4)
      go_roundw
      case rel =>
        refine ⟨k + 1, by omega, by go_num, ?_, (hbw.trans (hb3.mono (by omega))).trans hb4⟩
        rw [HWS.out]; simpa using hown4
      case measure => simp [intOf]; omega
    · have HK := Lib.hid (show (T + 1).toNat = k by omega)
      go_wp2
      go_ret2
      refine WeightsP.good HG.out ⟨hc, hcT⟩ ?_ (by rw [HK.out]; exact ownsRow_mono hown (by omega))
      exact ((Below.refl _ _).alloc (Nat.le_refl _) _).trans ((hb.mono (by simp)).trans (hbw.mono (by omega)))

set_option maxHeartbeats 400000 in
theorem weights_any_bad (T A B c : Int) (w : World) (h : ¬ Good T A B) :
    Calls Try.prog 8 #[nz T A B, .int .i64 c] w (WeightsP T A B c w) := by
  have HG := Lib.hid h
  have HCK := Lib.hid (checkN_bad h)
  clear h
  go_enter Try.func8, Try.ntmps8
  go_wp2_with fail
  refine (check_any T A B _).mono ?_
  rintro e w1 ⟨rfl, hb⟩
  rw [HCK.out]
  go_wp2
  go_ret2
  exact WeightsP.bad HG.out (((Below.refl _ _).alloc (Nat.le_refl _) _).trans (hb.mono (by simp)))

set_option maxHeartbeats 400000 in
theorem weights_any_out (T A B c : Int) (w : World) (h : Good T A B) (hc : ¬ (0 ≤ c ∧ c ≤ T)) :
    Calls Try.prog 8 #[nz T A B, .int .i64 c] w (WeightsP T A B c w) := by
  have HG := Lib.hid h
  have HC := Lib.hid hc
  have HCK := Lib.hid (checkN_ok h)
  have HIN := Lib.hid (inB_f hc).symm
  clear h hc
  go_enter Try.func8, Try.ntmps8
  go_wp2_with fail
  refine (check_any T A B _).mono ?_
  rintro e w1 ⟨rfl, hb⟩
  rw [HCK.out]
  obtain ⟨hc1, hf1⟩ := bcell hb
  go_wp2_with fail
  refine (in_any c 0 T _).mono ?_
  rintro e w2 ⟨rfl, rfl⟩
  rw [HIN.out]
  go_wp2
  go_ret2
  exact WeightsP.out HG.out HC.out (((Below.refl _ _).alloc (Nat.le_refl _) _).trans (hb.mono (by simp)))

theorem weights_any (T A B c : Int) (w : World) : Calls Try.prog 8 #[nz T A B, .int .i64 c] w (WeightsP T A B c w) := by
  by_cases h : Good T A B
  · by_cases hc : 0 ≤ c ∧ c ≤ T
    · exact weights_any_good T A B c w h hc.1 hc.2
    · exact weights_any_out T A B c w h hc
  · exact weights_any_bad T A B c w h

set_option maxHeartbeats 400000 in
theorem rweights_any_good (T A B c : Int) (w : World) (h : Good T A B) (hc : 0 ≤ c) (hcT : c ≤ T) :
    Calls Try.prog 19 #[nz T A B, .int .i64 c] w (WeightsP T A B c w) := by
  have HG := Lib.hid h
  obtain ⟨ht, ht2, hA, hAB, hB⟩ := h
  have HCK := Lib.hid (checkN_ok (T := T) (A := A) (B := B) (by omega))
  have HIN := Lib.hid (inB_t (n := c) (l := 0) (h := T) (by omega)).symm
  go_enter Try.func19, Try.ntmps19
  go_wp2_with fail
  refine (rcheck_any T A B _).mono ?_
  rintro e w1 ⟨rfl, hb⟩
  rw [HCK.out]
  obtain ⟨hc1, hf1⟩ := bcell hb
  go_wp2_with fail
  refine (rin_any T A B c _).mono ?_
  rintro e w2 ⟨rfl, hb'⟩
  replace hb := hb.trans (hb'.mono hb.size)
  obtain ⟨hc1, hf1⟩ := bcell hb
  rw [HIN.out]
  go_wp2_with fail
  go_loopw [6, 7] (fun o i wr => ∃ k : Nat, (k : Int) ≤ T + 1 ∧ i = .int .i64 k ∧ wr.ownsRow (w.heap.size + 1) 3 1 o k ((weightsL T A B c k).map (Value.int .i64)) ∧ Below (w.heap.size + 1) w2 wr) (fun _ i _ => (T + 1).toNat - (intOf i).toNat)
  case atStart => exact ⟨0, by omega, rfl, World.ownsRow_nil _ _ _ _, Below.refl _ _⟩
  case round =>
    obtain ⟨k, hk, rfl, hown, hbw⟩ := hrel
    have hz := hbw.size
    have hz2 := hb.size
    simp at hz2
    obtain ⟨hc2, hf2⟩ := bcell hbw
    by_cases hlt : (k : Int) < T + 1
    · go_wp2_with fail
      refine (rweight_any T A B c k _ ht ht2 hA hAB hB hc hcT (by omega) (by omega)).mono ?_
      rintro e w3 ⟨rfl, hb3⟩
      have hown3 := own_below hown hb3
      have hz3 := hb3.size
      have HWS := Lib.hid (weightsL_succ T A B c k)
      go_wp2_with (at_builtin; refine app_one rfl (.tmp 21) (.tmp 26) 25 rfl (base := w.heap.size + 1) Try.underlying25 info_int rfl rfl hown3 rfl rfl (by simp only [maxLen]; omega) (by omega) (by omega) ?_; intro v4 w4 hown4 hg4 hb4)
      go_roundw
      case rel =>
        refine ⟨k + 1, by omega, by go_num, ?_, (hbw.trans (hb3.mono (by omega))).trans hb4⟩
        rw [HWS.out]; simpa using hown4
      case measure => simp [intOf]; omega
    · have HK := Lib.hid (show (T + 1).toNat = k by omega)
      go_wp2
      go_ret2
      refine WeightsP.good HG.out ⟨hc, hcT⟩ ?_ (by rw [HK.out]; exact ownsRow_mono hown (by omega))
      exact ((Below.refl _ _).alloc (Nat.le_refl _) _).trans ((hb.mono (by simp)).trans (hbw.mono (by omega)))

set_option maxHeartbeats 400000 in
theorem rweights_any_bad (T A B c : Int) (w : World) (h : ¬ Good T A B) :
    Calls Try.prog 19 #[nz T A B, .int .i64 c] w (WeightsP T A B c w) := by
  have HG := Lib.hid h
  have HCK := Lib.hid (checkN_bad h)
  clear h
  go_enter Try.func19, Try.ntmps19
  go_wp2_with fail
  refine (rcheck_any T A B _).mono ?_
  rintro e w1 ⟨rfl, hb⟩
  rw [HCK.out]
  go_wp2
  go_ret2
  exact WeightsP.bad HG.out (((Below.refl _ _).alloc (Nat.le_refl _) _).trans (hb.mono (by simp)))

set_option maxHeartbeats 400000 in
theorem rweights_any_out (T A B c : Int) (w : World) (h : Good T A B) (hc : ¬ (0 ≤ c ∧ c ≤ T)) :
    Calls Try.prog 19 #[nz T A B, .int .i64 c] w (WeightsP T A B c w) := by
  have HG := Lib.hid h
  have HC := Lib.hid hc
  have HCK := Lib.hid (checkN_ok h)
  have HIN := Lib.hid (inB_f hc).symm
  clear h hc
  go_enter Try.func19, Try.ntmps19
  go_wp2_with fail
  refine (rcheck_any T A B _).mono ?_
  rintro e w1 ⟨rfl, hb⟩
  rw [HCK.out]
  obtain ⟨hc1, hf1⟩ := bcell hb
  go_wp2_with fail
  refine (rin_any T A B c _).mono ?_
  rintro e w2 ⟨rfl, hb'⟩
  replace hb := hb.trans (hb'.mono hb.size)
  obtain ⟨hc1, hf1⟩ := bcell hb
  rw [HIN.out]
  go_wp2
  go_ret2
  exact WeightsP.out HG.out HC.out (((Below.refl _ _).alloc (Nat.le_refl _) _).trans (hb.mono (by simp)))

theorem rweights_any (T A B c : Int) (w : World) : Calls Try.prog 19 #[nz T A B, .int .i64 c] w (WeightsP T A B c w) := by
  by_cases h : Good T A B
  · by_cases hc : 0 ≤ c ∧ c ≤ T
    · exact rweights_any_good T A B c w h hc.1 hc.2
    · exact rweights_any_out T A B c w h hc
  · exact rweights_any_bad T A B c w h
end Go.Proofs.Ytifmmiclhffmhaa
