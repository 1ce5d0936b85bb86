/-
  NoisePrivate: the walk.
-/
import Derived.Test.YtifmmiclhffmhaaNoiseAddsW
namespace Go.Proofs.Ytifmmiclhffmhaa
open Go.RowKit

theorem goodOf2 (x y z : Int) : Good (1 + x % 24) (1 + y % (2 + z % 3 - 1)) (2 + z % 3) := by
  have h1 := Int.emod_nonneg x (b := 24) (by omega)
  have h2 := Int.emod_lt_of_pos x (b := 24) (by omega)
  have h3 := Int.emod_nonneg z (b := 3) (by omega)
  have h4 := Int.emod_lt_of_pos z (b := 3) (by omega)
  have h5 := Int.emod_nonneg y (b := 2 + z % 3 - 1) (by omega)
  have h6 := Int.emod_lt_of_pos y (b := 2 + z % 3 - 1) (by omega)
  unfold Good; omega
theorem factor_lo {T A B k z : Int} (h : Good T A B) (hk : 0 ≤ k ∧ k < T) (hz : 0 ≤ z ∧ z ≤ T) (hzk : z ≤ k) : weightW T A B k z * A = weightW T A B (k + 1) z * B := by
  obtain ⟨t, a, b, rfl, rfl, rfl, h1, h2, h3, h4, h5⟩ := h.nats
  obtain ⟨k, rfl⟩ := Int.eq_ofNat_of_zero_le hk.1
  obtain ⟨z, rfl⟩ := Int.eq_ofNat_of_zero_le hz.1
  have hf := (okAt_factor (okAt_true t a b k h1 h2 h3 h4 h5 (by omega)) (by omega) (show z ≤ t by omega)).1 (by omega)
  rw [weightW_nat t a b k z h2 h4 h5 (by omega) (by omega), show (k : Int) + 1 = ((k + 1 : Nat) : Int) from rfl, weightW_nat t a b (k + 1) z h2 h4 h5 (by omega) (by omega), ← Int.natCast_mul, ← Int.natCast_mul, hf]
theorem factor_hi {T A B k z : Int} (h : Good T A B) (hk : 0 ≤ k ∧ k < T) (hz : 0 ≤ z ∧ z ≤ T) (hzk : k < z) : weightW T A B k z * B = weightW T A B (k + 1) z * A := by
  obtain ⟨t, a, b, rfl, rfl, rfl, h1, h2, h3, h4, h5⟩ := h.nats
  obtain ⟨k, rfl⟩ := Int.eq_ofNat_of_zero_le hk.1
  obtain ⟨z, rfl⟩ := Int.eq_ofNat_of_zero_le hz.1
  have hf := (okAt_factor (okAt_true t a b k h1 h2 h3 h4 h5 (by omega)) (by omega) (show z ≤ t by omega)).2 (by omega)
  rw [weightW_nat t a b k z h2 h4 h5 (by omega) (by omega), show (k : Int) + 1 = ((k + 1 : Nat) : Int) from rfl, weightW_nat t a b (k + 1) z h2 h4 h5 (by omega) (by omega), ← Int.natCast_mul, ← Int.natCast_mul, hf]
theorem cancel_g (x y a b : Int) (h : x * a = y * b) (hx : 1 ≤ x) : x / gcdI x y * a = y / gcdI x y * b := by
  have hg : 1 ≤ gcdI x y := gcdI_pos hx
  obtain ⟨p, hp⟩ : gcdI x y ∣ x := Int.gcd_dvd_left x y
  obtain ⟨q, hq⟩ : gcdI x y ∣ y := Int.gcd_dvd_right x y
  generalize gcdI x y = g at *
  subst hp
  subst hq
  rw [Int.mul_ediv_cancel_left _ (by omega), Int.mul_ediv_cancel_left _ (by omega)]
  rw [Int.mul_assoc, Int.mul_assoc] at h
  exact Int.eq_of_mul_eq_mul_left (by omega) h
theorem odds_lo {T A B k z : Int} (h : Good T A B) (hk : 0 ≤ k ∧ k < T) (hz : 0 ≤ z ∧ z ≤ T) (hzk : z ≤ k) : oddsX T A B k (k + 1) z * A = oddsY T A B k (k + 1) z * B :=
  cancel_g _ _ _ _ (factor_lo h hk hz hzk) (weightW_range h ⟨hk.1, by omega⟩ hz).1
theorem odds_hi {T A B k z : Int} (h : Good T A B) (hk : 0 ≤ k ∧ k < T) (hz : 0 ≤ z ∧ z ≤ T) (hzk : k < z) : oddsX T A B k (k + 1) z * B = oddsY T A B k (k + 1) z * A :=
  cancel_g _ _ _ _ (factor_hi h hk hz hzk) (weightW_range h ⟨hk.1, by omega⟩ hz).1
theorem odds_good (T A B a b z : Int) (w : World) (hG : Good T A B) (ha : 0 ≤ a ∧ a ≤ T) (hb : 0 ≤ b ∧ b ≤ T) (hz : 0 ≤ z ∧ z ≤ T) :
    Calls Try.prog 21 #[nz T A B, .int .i64 a, .int .i64 b, .int .i64 z] w (RetB (.tuple #[.int .i64 (oddsX T A B a b z), .int .i64 (oddsY T A B a b z), .int .i64 0]) w) := by
  have := odds_any T A B a b z w
  rw [← oddsT_in hG ⟨ha, hb, hz⟩] at this
  exact this

set_option maxRecDepth 100000 in
set_option maxHeartbeats 2000000 in
theorem noisePrivate_walk (x y z c : Int) (w : World) (hx : 0 ≤ x ∧ x ≤ 255) (hy : 0 ≤ y ∧ y ≤ 255) (hz : 0 ≤ z ∧ z ≤ 255) (hc : 0 ≤ c ∧ c ≤ 255) :
    Calls Try.prog 7 #[.agg #[.int .u8 x, .int .u8 y, .int .u8 z, .int .u8 c]] w (RetB (.bool true) w) := by
  have HG := Lib.hid (goodOf2 x y z)
  have h1 := Int.emod_nonneg x (b := 24) (by omega)
  have h2 := Int.emod_lt_of_pos x (b := 24) (by omega)
  have h3 := Int.emod_nonneg z (b := 3) (by omega)
  have h4 := Int.emod_lt_of_pos z (b := 3) (by omega)
  have h5 := Int.emod_nonneg y (b := 2 + z % 3 - 1) (by omega)
  have h6 := Int.emod_lt_of_pos y (b := 2 + z % 3 - 1) (by omega)
  have h7 := Int.emod_nonneg c (b := 1 + x % 24) (by omega)
  have h8 := Int.emod_lt_of_pos c (b := 1 + x % 24) (by omega)
  go_enter Try.func7, Try.ntmps7
  go_wp2
  go_quiet (fail)
  go_wp2_with fail
  generalize hT : 1 + x % 24 = T at *
  generalize hB : 2 + z % 3 = B at *
  generalize hA : 1 + y % (B - 1) = A at *
  generalize hk0 : c % T = k at *
  have T1 : 1 ≤ T := by omega
  have T2 : T ≤ 24 := by omega
  clear hT hB hA hk0 h1 h2 h3 h4 h5 h6
  refine (weights_any_good T A B k _ HG.out h7 (by omega)).mono ?_
  rintro e w1 ⟨v, rfl, hb, o, rfl, hown⟩
  rw [wErr_good HG.out ⟨h7, by omega⟩]
  rw [wLst_good HG.out ⟨h7, by omega⟩] at hown
  obtain ⟨Aw, cw, rfl, hI⟩ := IntsAt.of_own hown rfl
  clear hown
  obtain ⟨hc1, hf1⟩ := bcell hb
  go_wp2_with fail
  refine (weights_any_good T A B (k + 1) _ HG.out (by omega) (by omega)).mono ?_
  rintro e w2 ⟨v, rfl, hb2, o, rfl, hown⟩
  rw [wErr_good HG.out ⟨by omega, by omega⟩]
  rw [wLst_good HG.out ⟨by omega, by omega⟩] at hown
  obtain ⟨Av, cv, rfl, hJ⟩ := IntsAt.of_own hown rfl
  replace hI := hI.below hb2
  replace hb := hb.trans (hb2.mono hb.size)
  clear hown hb2 hc1 hf1
  have hbw : Below w.heap.size w w2 := by
    refine Below.trans ?_ (hb.mono (by simp; omega))
    refine Below.alloc ?_ (by simp) _; exact below_drewN ((Below.refl _ _).alloc (Nat.le_refl _) _) _
  have hlt2 : w.heap.size + 1 < w2.heap.size := by have := hb.size; simp at this; omega
  have c0 : w2.cell? ⟨w.heap.size + 1, 0, none⟩ = some (.int .i64 T) := by
    rw [hb.cell (p := ⟨w.heap.size + 1, 0, none⟩) (by simp), World.cell?_alloc_at _ _ _ _ (by simp)]; rfl
  have c1 : w2.cell? ⟨w.heap.size + 1, 1, none⟩ = some (.int .i64 A) := by
    rw [hb.cell (p := ⟨w.heap.size + 1, 1, none⟩) (by simp), World.cell?_alloc_at _ _ _ _ (by simp)]; rfl
  have c2 : w2.cell? ⟨w.heap.size + 1, 2, none⟩ = some (.int .i64 B) := by
    rw [hb.cell (p := ⟨w.heap.size + 1, 2, none⟩) (by simp), World.cell?_alloc_at _ _ _ _ (by simp)]; rfl
  clear hb
  have hL1 : ((((weightsL T A B k (T + 1).toNat).length : Nat) : Int) != T + 1) = false := by rw [weightsL_len]; simp; omega
  have hL2 : ((((weightsL T A B (k + 1) (T + 1).toNat).length : Nat) : Int) != T + 1) = false := by rw [weightsL_len]; simp; omega
  go_wp2_with fail
  have HL1 := Lib.hid (weightsL_len T A B k (T + 1).toNat)
  have HL2 := Lib.hid (weightsL_len T A B (k + 1) (T + 1).toNat)
  have HN1 := Lib.hid (fun j (hj : j < (T + 1).toNat) => nth_weightsL T A B k (T + 1).toNat j hj)
  have HN2 := Lib.hid (fun j (hj : j < (T + 1).toNat) => nth_weightsL T A B (k + 1) (T + 1).toNat j hj)
  clear hL1 hL2
  generalize hl : weightsL T A B k (T + 1).toNat = L at *
  generalize hm : weightsL T A B (k + 1) (T + 1).toNat = M at *
  clear hl hm
  have hL := HL1.out
  have hM := HL2.out
  have hL1 : L.length ≤ (T + 1).toNat := by omega
  have hL2 : (T + 1).toNat ≤ L.length := by omega
  have hM1 : M.length ≤ (T + 1).toNat := by omega
  have hM2 : (T + 1).toNat ≤ M.length := by omega
  clear hL hM
  go_loopw [13] (fun i wr => ∃ j : Nat, (j : Int) ≤ T + 1 ∧ i = .int .i64 j ∧ Below w2.heap.size w2 wr) (fun i _ => (T + 1).toNat - (intOf i).toNat)
  case atStart => exact ⟨0, by omega, rfl, Below.refl _ _⟩
  case round =>
    obtain ⟨j, hj, rfl, hbr⟩ := hrel
    have hcr0 := (hbr.cell (p := ⟨w.heap.size + 1, 0, none⟩) hlt2).trans c0
    have hcr1 := (hbr.cell (p := ⟨w.heap.size + 1, 1, none⟩) hlt2).trans c1
    have hcr2 := (hbr.cell (p := ⟨w.heap.size + 1, 2, none⟩) hlt2).trans c2
    have hltr := Nat.lt_of_lt_of_le hlt2 hbr.size
    have hIr := hI.below hbr
    have hJr := hJ.below hbr
    clear hI hJ
    by_cases hjT : (j : Int) ≤ T
    · obtain ⟨bL, oL, rfl, hbL, cL⟩ := hIr j (by omega)
      obtain ⟨bM, oM, rfl, hbM, cM⟩ := hJr j (by omega)
      clear hIr hJr
      go_wp2_with fail
      refine (odds_good T A B k (k + 1) j _ HG.out ⟨h7, by omega⟩ ⟨by omega, by omega⟩ ⟨by omega, hjT⟩).mono ?_
      rintro e w3 ⟨rfl, hb3⟩
      have d0 := (hb3.cell (p := ⟨w.heap.size + 1, 0, none⟩) hltr).trans hcr0
      have d1 := (hb3.cell (p := ⟨w.heap.size + 1, 1, none⟩) hltr).trans hcr1
      have d2 := (hb3.cell (p := ⟨w.heap.size + 1, 2, none⟩) hltr).trans hcr2
      have dL := (hb3.cell (p := ⟨bL, oL + j, none⟩) hbL).trans cL
      have dM := (hb3.cell (p := ⟨bM, oM + j, none⟩) hbM).trans cM
      have hbr3 := hbr.trans (hb3.mono hbr.size)
      clear c0 c1 c2 hcr0 hcr1 hcr2 cL cM hb3
      by_cases hjk : (j : Int) ≤ k
      · have f1 := odds_lo HG.out ⟨h7, h8⟩ ⟨show (0 : Int) ≤ j by omega, hjT⟩ hjk
        have f2 : nth L j * A = nth M j * B := by rw [HN1.out j (by omega), HN2.out j (by omega)]; exact factor_lo HG.out ⟨h7, h8⟩ ⟨by omega, hjT⟩ hjk
        have g1 : (decide ((j : Int) ≤ k)) = true := decide_eq_true hjk
        have g2 : (decide (k < (j : Int))) = false := decide_eq_false (by omega)
        go_wp2_with fail
        go_quiet (fail)
        go_wp2_with fail
        go_roundw
        case rel => exact ⟨j + 1, by omega, by go_num, below_drewN hbr3 _⟩
        case measure => simp [intOf]; omega
      · have f1 := odds_hi HG.out ⟨h7, h8⟩ ⟨show (0 : Int) ≤ j by omega, hjT⟩ (by omega)
        have f2 : nth L j * B = nth M j * A := by rw [HN1.out j (by omega), HN2.out j (by omega)]; exact factor_hi HG.out ⟨h7, h8⟩ ⟨by omega, hjT⟩ (by omega)
        have g1 : (decide ((j : Int) ≤ k)) = false := decide_eq_false hjk
        have g2 : (decide (k < (j : Int))) = true := decide_eq_true (by omega)
        go_wp2_with fail
        go_quiet (fail)
        go_wp2_with fail
        go_roundw
        case rel => exact ⟨j + 1, by omega, by go_num, below_drewN hbr3 _⟩
        case measure => simp [intOf]; omega
    · go_wp2_with fail
      refine (awake_any _).mono ?_
      rintro e w3 ⟨rfl, hb3⟩
      go_wp2
      go_ret
      have hbr3 := hbr.trans (hb3.mono hbr.size)
      exact RetB.bool rfl (hbw.trans (hbr3.mono hbw.size))
end Go.Proofs.Ytifmmiclhffmhaa
