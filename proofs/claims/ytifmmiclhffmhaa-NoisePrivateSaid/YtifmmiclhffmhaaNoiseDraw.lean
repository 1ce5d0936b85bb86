/-
  The noise of layer 38: drawing.
-/
import Derived.Test.YtifmmiclhffmhaaNoiseLaw2
namespace Go.Proofs.Ytifmmiclhffmhaa
open Go.RowKit

def drawE (T A B c u : Int) : Int := if wErr T A B c = 0 then (if inB u 0 (totalW T A B - 1) then 0 else 2) else wErr T A B c
def drawV (T A B c u : Int) : Int := if wErr T A B c = 0 then (if inB u 0 (totalW T A B - 1) then (drawZ (wLst T A B c) u : Nat) else 0) else 0
theorem wErr_bad {T A B c : Int} (h : ¬ Good T A B) : wErr T A B c = 57 := by rw [wErr, nOK_f h]; rfl
theorem wErr_out {T A B c : Int} (h : Good T A B) (hc : ¬ (0 ≤ c ∧ c ≤ T)) : wErr T A B c = 2 := by rw [wErr, nOK_t h, ← inB_f hc]; rfl
theorem wErr_good {T A B c : Int} (h : Good T A B) (hc : 0 ≤ c ∧ c ≤ T) : wErr T A B c = 0 := by rw [wErr, nOK_t h, ← inB_t hc]; rfl
theorem wLst_good {T A B c : Int} (h : Good T A B) (hc : 0 ≤ c ∧ c ≤ T) : wLst T A B c = weightsL T A B c (T + 1).toNat := by rw [wLst, nOK_t h, ← inB_t hc]; rfl
theorem dv_bad {T A B c u : Int} (h : wErr T A B c ≠ 0) : drawV T A B c u = 0 ∧ drawE T A B c u = wErr T A B c := by
  simp only [drawV, drawE]; rw [if_neg h, if_neg h]; exact ⟨rfl, rfl⟩
theorem dv_out {T A B c u : Int} (h : wErr T A B c = 0) (hu : ¬ (0 ≤ u ∧ u ≤ totalW T A B - 1)) : drawV T A B c u = 0 ∧ drawE T A B c u = 2 := by
  simp only [drawV, drawE]; rw [if_pos h, if_pos h, ← inB_f hu]; exact ⟨rfl, rfl⟩
theorem dv_in {T A B c u : Int} (h : wErr T A B c = 0) (hu : 0 ≤ u ∧ u ≤ totalW T A B - 1) : drawV T A B c u = (drawZ (wLst T A B c) u : Nat) ∧ drawE T A B c u = 0 := by
  simp only [drawV, drawE]; rw [if_pos h, if_pos h, ← inB_t hu]; exact ⟨rfl, rfl⟩
theorem pair_eq {a b x y : Int} (h : x = a ∧ y = b) : Value.tuple #[.int .i64 a, .int .i64 b] = Value.tuple #[.int .i64 x, .int .i64 y] := by rw [h.1, h.2]

set_option maxHeartbeats 400000 in
theorem draw_bad (T A B c u : Int) (w : World) (h : wErr T A B c ≠ 0) :
    Calls Try.prog 11 #[nz T A B, .int .i64 c, .int .i64 u] w (RetB (.tuple #[.int .i64 (drawV T A B c u), .int .i64 (drawE T A B c u)]) w) := by
  have HD := Lib.hid (dv_bad (u := u) h)
  have hne : (wErr T A B c != 0) = true := by simp [h]
  clear h
  go_enter Try.func11, Try.ntmps11
  go_wp2_with fail
  refine (weights_any T A B c _).mono ?_
  rintro e w1 ⟨v, rfl, hb, o, rfl, hown⟩
  obtain ⟨hc1, hf1⟩ := bcell hb
  clear hown
  go_wp2
  go_ret2
  exact RetB.val (pair_eq HD.out) (((Below.refl _ _).alloc (Nat.le_refl _) _).trans (hb.mono (by simp)))

set_option maxHeartbeats 400000 in
theorem draw_out (T A B c u : Int) (w : World) (hG : Good T A B) (hc : 0 ≤ c ∧ c ≤ T) (hu : ¬ (0 ≤ u ∧ u ≤ totalW T A B - 1)) :
    Calls Try.prog 11 #[nz T A B, .int .i64 c, .int .i64 u] w (RetB (.tuple #[.int .i64 (drawV T A B c u), .int .i64 (drawE T A B c u)]) w) := by
  have HD := Lib.hid (dv_out (u := u) (wErr_good hG hc) hu)
  have HE := Lib.hid (wErr_good hG hc)
  have HI := Lib.hid (inB_f hu).symm
  have hW := WOK.of hG hc
  obtain ⟨ht1, ht2⟩ := hW.tot
  obtain ⟨g1, g2, g3, g4, g5⟩ := hG
  clear hW
  
  all_goals
    go_enter Try.func11, Try.ntmps11
    go_wp2_with fail
    refine (weights_any T A B c _).mono ?_
    rintro e w1 ⟨v, rfl, hb, o, rfl, hown⟩
    rw [HE.out]
    obtain ⟨hc1, hf1⟩ := bcell hb
    clear hown
    go_wp2_with (first | (go_at_call 10; refine (total_ok T A B _ g1 g2 g3 g4 g5).mono ?_; rintro e w2 ⟨rfl, hb2⟩; replace hb := hb.trans (hb2.mono hb.size); obtain ⟨hc1, hf1⟩ := bcell hb) | (go_at_call 23; refine (in_any _ _ _ _).mono ?_; rintro e w2 ⟨rfl, rfl⟩; rw [HI.out]))
    go_ret2
    exact RetB.val (pair_eq HD.out) (((Below.refl _ _).alloc (Nat.le_refl _) _).trans (hb.mono (by simp)))

set_option maxHeartbeats 800000 in
theorem draw_in (T A B c u : Int) (w : World) (hG : Good T A B) (hc : 0 ≤ c ∧ c ≤ T) (hu : 0 ≤ u ∧ u ≤ totalW T A B - 1) :
    Calls Try.prog 11 #[nz T A B, .int .i64 c, .int .i64 u] w (RetB (.tuple #[.int .i64 (drawV T A B c u), .int .i64 (drawE T A B c u)]) w) := by
  have HD := Lib.hid (dv_in (u := u) (wErr_good hG hc) hu)
  have HE := Lib.hid (wErr_good hG hc)
  have HI := Lib.hid (inB_t hu).symm
  have HL := Lib.hid (wLst_good hG hc)
  have hW := WOK.of hG hc
  obtain ⟨ht1, ht2⟩ := hW.tot
  have HS := Lib.hid hW.sum
  have hp := hW.pos
  obtain ⟨g1, g2, g3, g4, g5⟩ := hG
  obtain ⟨hu1, hu2⟩ := hu
  have hln := weightsL_len T A B c (T + 1).toNat
  generalize hl : weightsL T A B c (T + 1).toNat = L at *
  have HN := Lib.hid hln
  have hn1 : L.length ≤ (T + 1).toNat := by omega
  have hn2 : (T + 1).toNat ≤ L.length := by omega
  clear hln hl hW
  have hmono := preS_mono (fun k hk => (hp k hk).1)
  go_enter Try.func11, Try.ntmps11
  go_wp2_with fail
  refine (weights_any T A B c _).mono ?_
  rintro e w1 ⟨v, rfl, hb, o, rfl, hown⟩
  rw [HE.out]
  rw [HL.out] at hown
  obtain ⟨A', cap, rfl, hI⟩ := IntsAt.of_own hown rfl
  obtain ⟨hc1, hf1⟩ := bcell hb
  clear hown
  go_wp2_with (first | (go_at_call 10; refine (total_ok T A B _ g1 g2 g3 g4 g5).mono ?_; rintro e w2 ⟨rfl, hb2⟩; replace hI := hI.below hb2; replace hb := hb.trans (hb2.mono hb.size); obtain ⟨hc1, hf1⟩ := bcell hb) | (go_at_call 23; refine (in_any _ _ _ _).mono ?_; rintro e w2 ⟨rfl, rfl⟩; rw [HI.out]))
  go_loop [10, 30] (fun s i => ∃ k : Nat, k ≤ L.length ∧ i = .int .i64 k ∧ s = .int .i64 (preS L k) ∧ preS L k ≤ u ∧ drawZ L u = k + drawZ (L.drop k) (u - preS L k)) (fun _ i => L.length - (intOf i).toNat)
  case atStart => exact ⟨0, by omega, rfl, rfl, by rw [preS_zero]; omega, by simp [preS_zero]⟩
  case round =>
    obtain ⟨k, hk, rfl, rfl, hle, hd⟩ := hrel
    have HK := Lib.hid hd
    clear hd
    by_cases hlt : k < L.length
    · obtain ⟨b', off', rfl, hbl, hcell⟩ := hI k hlt
      have hsum := preS_succ L k hlt
      obtain ⟨hp1, hp2⟩ := hp k hlt
      have h0 := hmono k 0 (by omega) hk
      have hz0 : preS L 0 = 0 := rfl
      have h1 := hmono (T + 1).toNat k (by omega) hn2
      have hT : preS L (T + 1).toNat ≤ 36028797018963968 := by rw [HS.out]; exact ht2
      have hb0 : 0 ≤ preS L k := by omega
      have hb1 : preS L k ≤ 36028797018963968 := by omega
      have HP := Lib.hid hsum
      by_cases hstop : preS L k + nth L k ≤ u
      · have hz2 := drawZ_step L u k hlt (by omega)
        have HZ := Lib.hid hz2
        clear hz2 hsum h0 h1 hT hz0 hmono hI hp
        go_wp2
        go_round
        case rel => exact ⟨k + 1, by omega, by go_num, by rw [HP.out], by rw [HP.out]; omega, by rw [HK.out, HZ.out]; omega⟩
        case measure => simp [intOf]; omega
      · have hz2 := drawZ_stop L u k hlt (by omega)
        have HZ := Lib.hid hz2
        clear hz2 hsum h0 h1 hT hz0 hmono hI hp
        go_wp2
        go_ret2
        refine RetB.val (pair_eq ⟨?_, HD.out.2⟩) (((Below.refl _ _).alloc (Nat.le_refl _) _).trans (hb.mono (by simp)))
        rw [HD.out.1, HL.out, HK.out, HZ.out]; omega
    · have hTk : preS L (T + 1).toNat = totalW T A B := HS.out
      rw [show (T + 1).toNat = k by omega] at hTk
      omega

theorem draw_any (T A B c u : Int) (w : World) :
    Calls Try.prog 11 #[nz T A B, .int .i64 c, .int .i64 u] w (RetB (.tuple #[.int .i64 (drawV T A B c u), .int .i64 (drawE T A B c u)]) w) := by
  by_cases h : Good T A B
  · by_cases hc : 0 ≤ c ∧ c ≤ T
    · by_cases hu : 0 ≤ u ∧ u ≤ totalW T A B - 1
      · exact draw_in T A B c u w h hc hu
      · exact draw_out T A B c u w h hc hu
    · exact draw_bad T A B c u w (by rw [wErr_out h hc]; decide)
  · exact draw_bad T A B c u w (by rw [wErr_bad h]; decide)

set_option maxHeartbeats 400000 in
theorem rdraw_bad (T A B c u : Int) (w : World) (h : wErr T A B c ≠ 0) :
    Calls Try.prog 27 #[nz T A B, .int .i64 c, .int .i64 u] w (RetB (.tuple #[.int .i64 (drawV T A B c u), .int .i64 (drawE T A B c u)]) w) := by
  have HD := Lib.hid (dv_bad (u := u) h)
  have hne : (wErr T A B c != 0) = true := by simp [h]
  clear h
  go_enter Try.func27, Try.ntmps27
  go_wp2_with fail
  refine (rweights_any T A B c _).mono ?_
  rintro e w1 ⟨v, rfl, hb, o, rfl, hown⟩
  obtain ⟨hc1, hf1⟩ := bcell hb
  clear hown
  go_wp2
  go_ret2
  exact RetB.val (pair_eq HD.out) (((Below.refl _ _).alloc (Nat.le_refl _) _).trans (hb.mono (by simp)))

set_option maxHeartbeats 400000 in
theorem rdraw_out (T A B c u : Int) (w : World) (hG : Good T A B) (hc : 0 ≤ c ∧ c ≤ T) (hu : ¬ (0 ≤ u ∧ u ≤ totalW T A B - 1)) :
    Calls Try.prog 27 #[nz T A B, .int .i64 c, .int .i64 u] w (RetB (.tuple #[.int .i64 (drawV T A B c u), .int .i64 (drawE T A B c u)]) w) := by
  have HD := Lib.hid (dv_out (u := u) (wErr_good hG hc) hu)
  have HE := Lib.hid (wErr_good hG hc)
  have HI := Lib.hid (inB_f hu).symm
  have hW := WOK.of hG hc
  obtain ⟨ht1, ht2⟩ := hW.tot
  obtain ⟨g1, g2, g3, g4, g5⟩ := hG
  clear hW
  by_cases h0 : u < 0
  all_goals
    go_enter Try.func27, Try.ntmps27
    go_wp2_with fail
    refine (rweights_any T A B c _).mono ?_
    rintro e w1 ⟨v, rfl, hb, o, rfl, hown⟩
    rw [HE.out]
    obtain ⟨hc1, hf1⟩ := bcell hb
    clear hown
    go_wp2_with (first | (go_at_call 31; refine (rtotal_ok T A B _ g1 g2 g3 g4 g5).mono ?_; rintro e w2 ⟨rfl, hb2⟩; replace hb := hb.trans (hb2.mono hb.size); obtain ⟨hc1, hf1⟩ := bcell hb) | (go_at_call 23; refine (in_any _ _ _ _).mono ?_; rintro e w2 ⟨rfl, rfl⟩; rw [HI.out]))
    go_ret2
    exact RetB.val (pair_eq HD.out) (((Below.refl _ _).alloc (Nat.le_refl _) _).trans (hb.mono (by simp)))

set_option maxHeartbeats 800000 in
theorem rdraw_in (T A B c u : Int) (w : World) (hG : Good T A B) (hc : 0 ≤ c ∧ c ≤ T) (hu : 0 ≤ u ∧ u ≤ totalW T A B - 1) :
    Calls Try.prog 27 #[nz T A B, .int .i64 c, .int .i64 u] w (RetB (.tuple #[.int .i64 (drawV T A B c u), .int .i64 (drawE T A B c u)]) w) := by
  have HD := Lib.hid (dv_in (u := u) (wErr_good hG hc) hu)
  have HE := Lib.hid (wErr_good hG hc)
  have HI := Lib.hid (inB_t hu).symm
  have HL := Lib.hid (wLst_good hG hc)
  have hW := WOK.of hG hc
  obtain ⟨ht1, ht2⟩ := hW.tot
  have HS := Lib.hid hW.sum
  have hp := hW.pos
  obtain ⟨g1, g2, g3, g4, g5⟩ := hG
  obtain ⟨hu1, hu2⟩ := hu
  have hln := weightsL_len T A B c (T + 1).toNat
  generalize hl : weightsL T A B c (T + 1).toNat = L at *
  have HN := Lib.hid hln
  have hn1 : L.length ≤ (T + 1).toNat := by omega
  have hn2 : (T + 1).toNat ≤ L.length := by omega
  clear hln hl hW
  have hmono := preS_mono (fun k hk => (hp k hk).1)
  go_enter Try.func27, Try.ntmps27
  go_wp2_with fail
  refine (rweights_any T A B c _).mono ?_
  rintro e w1 ⟨v, rfl, hb, o, rfl, hown⟩
  rw [HE.out]
  rw [HL.out] at hown
  obtain ⟨A', cap, rfl, hI⟩ := IntsAt.of_own hown rfl
  obtain ⟨hc1, hf1⟩ := bcell hb
  clear hown
  go_wp2_with (first | (go_at_call 31; refine (rtotal_ok T A B _ g1 g2 g3 g4 g5).mono ?_; rintro e w2 ⟨rfl, hb2⟩; replace hI := hI.below hb2; replace hb := hb.trans (hb2.mono hb.size); obtain ⟨hc1, hf1⟩ := bcell hb) | (go_at_call 23; refine (in_any _ _ _ _).mono ?_; rintro e w2 ⟨rfl, rfl⟩; rw [HI.out]))
  go_loop [2, 10] (fun s i => ∃ k : Nat, k ≤ L.length ∧ i = .int .i64 k ∧ s = .int .i64 (u - preS L k) ∧ preS L k ≤ u ∧ drawZ L u = k + drawZ (L.drop k) (u - preS L k)) (fun _ i => L.length - (intOf i).toNat)
  case atStart => exact ⟨0, by omega, rfl, by simp [preS_zero], by rw [preS_zero]; omega, by simp [preS_zero]⟩
  case round =>
    obtain ⟨k, hk, rfl, rfl, hle, hd⟩ := hrel
    have HK := Lib.hid hd
    clear hd
    by_cases hlt : k < L.length
    · obtain ⟨b', off', rfl, hbl, hcell⟩ := hI k hlt
      have hsum := preS_succ L k hlt
      obtain ⟨hp1, hp2⟩ := hp k hlt
      have h0 := hmono k 0 (by omega) hk
      have hz0 : preS L 0 = 0 := rfl
      have hb0 : 0 ≤ preS L k := by omega
      have HP := Lib.hid hsum
      by_cases hstop : preS L k + nth L k ≤ u
      · have hz2 := drawZ_step L u k hlt (by omega)
        have HZ := Lib.hid hz2
        have hge : nth L k ≤ u - preS L k := by omega
        clear hz2 hsum h0 hz0 hmono hI hp
        go_wp2
        go_round
        case rel => exact ⟨k + 1, by omega, by go_num, by rw [HP.out]; exact congrArg _ (by omega), by rw [HP.out]; omega, by rw [HK.out, HZ.out]; omega⟩
        case measure => simp [intOf]; omega
      · have hz2 := drawZ_stop L u k hlt (by omega)
        have HZ := Lib.hid hz2
        have hge : u - preS L k < nth L k := by omega
        clear hz2 hsum h0 hz0 hmono hI hp
        go_wp2
        go_ret2
        refine RetB.val (pair_eq ⟨?_, HD.out.2⟩) (((Below.refl _ _).alloc (Nat.le_refl _) _).trans (hb.mono (by simp)))
        rw [HD.out.1, HL.out, HK.out, HZ.out]; omega
    · have hTk : preS L (T + 1).toNat = totalW T A B := HS.out
      rw [show (T + 1).toNat = k by omega] at hTk
      omega

theorem rdraw_any (T A B c u : Int) (w : World) :
    Calls Try.prog 27 #[nz T A B, .int .i64 c, .int .i64 u] w (RetB (.tuple #[.int .i64 (drawV T A B c u), .int .i64 (drawE T A B c u)]) w) := by
  by_cases h : Good T A B
  · by_cases hc : 0 ≤ c ∧ c ≤ T
    · by_cases hu : 0 ≤ u ∧ u ≤ totalW T A B - 1
      · exact rdraw_in T A B c u w h hc hu
      · exact rdraw_out T A B c u w h hc hu
    · exact rdraw_bad T A B c u w (by rw [wErr_out h hc]; decide)
  · exact rdraw_bad T A B c u w (by rw [wErr_bad h]; decide)
end Go.Proofs.Ytifmmiclhffmhaa
