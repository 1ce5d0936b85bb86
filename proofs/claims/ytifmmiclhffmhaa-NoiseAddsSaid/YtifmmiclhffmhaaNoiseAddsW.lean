/-
  NoiseAdds: the walk.
-/
import Derived.Test.YtifmmiclhffmhaaNoiseAwake
import Derived.Deep.RegionHeld3
import Derived.Test.YtifmmiclhffmhaaKit2
namespace Go.Proofs.Ytifmmiclhffmhaa
open Go.RowKit

theorem goodOf (x y z : Int) (hx : 0 ≤ x) (hy : 0 ≤ y) (hz : 0 ≤ z) : Good (1 + x % 24) (1 + y % (2 + z % 3 - 1)) (2 + z % 3) := by
  have h1 := Int.emod_nonneg x (b := 24) (by omega)
  have h2 := Int.emod_lt_of_pos x (b := 24) (by omega)
  have h3 := Int.emod_nonneg z (b := 3) (by omega)
  have h4 := Int.emod_lt_of_pos z (b := 3) (by omega)
  have h5 := Int.emod_nonneg y (b := 2 + z % 3 - 1) (by omega)
  have h6 := Int.emod_lt_of_pos y (b := 2 + z % 3 - 1) (by omega)
  unfold Good; omega

set_option maxHeartbeats 1000000 in
theorem noiseAdds_walk (x y z c : Int) (w : World) (hx : 0 ≤ x ∧ x ≤ 255) (hy : 0 ≤ y ∧ y ≤ 255) (hz : 0 ≤ z ∧ z ≤ 255) (hc : 0 ≤ c ∧ c ≤ 255) :
    Calls Try.prog 3 #[.agg #[.int .u8 x, .int .u8 y, .int .u8 z, .int .u8 c]] w (RetB (.bool true) w) := by
  have HG := Lib.hid (goodOf x y z hx.1 hy.1 hz.1)
  have h1 := Int.emod_nonneg x (b := 24) (by omega)
  have h2 := Int.emod_lt_of_pos x (b := 24) (by omega)
  have h3 := Int.emod_nonneg z (b := 3) (by omega)
  have h4 := Int.emod_lt_of_pos z (b := 3) (by omega)
  have h5 := Int.emod_nonneg y (b := 2 + z % 3 - 1) (by omega)
  have h6 := Int.emod_lt_of_pos y (b := 2 + z % 3 - 1) (by omega)
  go_enter Try.func3, Try.ntmps3
  go_wp2
  go_quiet (fail)
  go_wp2
  generalize hT : 1 + x % 24 = T at *
  generalize hB : 2 + z % 3 = B at *
  generalize hA : 1 + y % (B - 1) = A at *
  have T1 : 1 ≤ T := by omega
  have T2 : T ≤ 24 := by omega
  have e1 : IntKind.i64.wrap (T + 1) = T + 1 := IntWalk.i64_in _ (by omega)
  have e2 : (T + 1 == 0) = false := by simp; omega
  have m1 := Int.emod_nonneg c (b := T + 1) (by omega)
  have m2 := Int.emod_lt_of_pos c (b := T + 1) (by omega)
  have e5 : IntKind.i64.wrap c = c := IntWalk.i64_in _ (by omega)
  have m4 : c % (T + 1) ≤ T := by omega
  have e3 : ¬ (T + 1 = 0) := by omega
  have e4 : IntKind.i64.wrap (c % (T + 1)) = c % (T + 1) := IntWalk.i64_in _ (by omega)
  have m3 := IntWalk.rem_in c (T + 1) hc.1
  refine gen_world fun w1 hw1 => ?_
  have hb : Below w.heap.size w w1 := by rw [hw1]; refine Below.alloc ?_ (by simp) _; exact below_drewN ((Below.refl _ _).alloc (Nat.le_refl _) _) _
  have hlt : w.heap.size + 1 < w1.heap.size := by rw [hw1]; simp
  have c0 : w1.cell? ⟨w.heap.size + 1, 0, none⟩ = some (.int .i64 (T)) := by rw [hw1, World.cell?_alloc_at _ _ _ _ (by simp)]; rfl
  have c1 : w1.cell? ⟨w.heap.size + 1, 1, none⟩ = some (.int .i64 A) := by rw [hw1, World.cell?_alloc_at _ _ _ _ (by simp)]; rfl
  have c2 : w1.cell? ⟨w.heap.size + 1, 2, none⟩ = some (.int .i64 B) := by rw [hw1, World.cell?_alloc_at _ _ _ _ (by simp)]; rfl
  clear hw1
  go_region_held3 (fun w' => w'.cell? ⟨w.heap.size + 1, 0, none⟩ = some (.int .i64 T) ∧ w'.cell? ⟨w.heap.size + 1, 1, none⟩ = some (.int .i64 A) ∧ w'.cell? ⟨w.heap.size + 1, 2, none⟩ = some (.int .i64 B)) (first | go_keep)
    (first | (go_at_call 8; refine (weights_any_good _ _ _ _ _ HG.out m1 m4).mono ?_; rintro e w2 ⟨v, rfl, hb2, o, rfl, hown⟩; have k0 := (hb2.cell (p := ⟨w.heap.size + 1, 0, none⟩) hlt).trans c0; have k1 := (hb2.cell (p := ⟨w.heap.size + 1, 1, none⟩) hlt).trans c1; have k2 := (hb2.cell (p := ⟨w.heap.size + 1, 2, none⟩) hlt).trans c2))
  generalize hcc : c % (T + 1) = k0' at *
  have hin : 0 ≤ k0' ∧ k0' ≤ T := ⟨m1, m4⟩
  have HE := Lib.hid (wErr_good HG.out hin)
  have hW := WOK.of HG.out hin
  rw [HE.out]
  rw [wLst_good HG.out hin] at hown
  have hln := weightsL_len T A B k0' (T + 1).toNat
  have hp := hW.pos
  have HS := Lib.hid hW.sum
  obtain ⟨ht1, ht2⟩ := hW.tot
  generalize hl : weightsL T A B k0' (T + 1).toNat = L at *
  obtain ⟨Aw, cw, rfl, hI⟩ := IntsAt.of_own hown rfl
  have hn1 : L.length ≤ (T + 1).toNat := by omega
  have hn2 : (T + 1).toNat ≤ L.length := by omega
  have hmono := preS_mono (fun k hk => (hp k hk).1)
  have hb02 := hb.drew.trans (hb2.mono hb.size)
  have hz2 : w.heap.size + 1 < w2.heap.size := Nat.lt_of_lt_of_le hlt hb2.size
  clear hown hcc hl hln hW e1 e2 e3 e4 e5 m3 m1 m2 m4 hT hB hA h1 h2 h3 h4 h5 h6 hb hb2 c0 c1 c2 hlt hin
  go_wp2_with fail
  go_loop [10, 11] (fun s i => ∃ k : Nat, k ≤ L.length ∧ i = .int .i64 k ∧ s = .int .i64 (preS L k)) (fun _ i => L.length - (intOf i).toNat)
  case atStart => exact ⟨0, by omega, rfl, rfl⟩
  case round =>
    obtain ⟨k, hk, rfl, rfl⟩ := hrel
    by_cases hlt : k < L.length
    · obtain ⟨b', off', rfl, hbl, hcell⟩ := hI k hlt
      have HP := Lib.hid (preS_succ L k hlt)
      obtain ⟨hp1, hp2⟩ := hp k hlt
      have h0 := hmono k 0 (by omega) hk
      have hz0 : preS L 0 = 0 := rfl
      have h1 := hmono (T + 1).toNat k (by omega) hn2
      have hT : preS L (T + 1).toNat ≤ 36028797018963968 := by rw [HS.out]; exact ht2
      have hb0 : 0 ≤ preS L k := by omega
      have hb1 : preS L k ≤ 36028797018963968 := by omega
      clear h0 h1 hT hz0 hmono hI hp
      go_wp2
      go_round
      case rel => exact ⟨k + 1, by omega, by go_num, by rw [HP.out]⟩
      case measure => simp [intOf]; omega
    · have hkT : L.length = k := by omega
      have HK := Lib.hid (show preS L k = totalW T A B by rw [← HS.out]; congr 1; omega)
      have HL := Lib.hid (show (((L.length : Nat) : Int) == T + 1) = true by simp; omega)
      rw [HK.out]
      clear hkT hmono hp hI
      go_wp2_with fail
      refine (awake_any _).mono ?_
      rintro e w3 ⟨rfl, hb3⟩
      obtain ⟨hc3, hf3⟩ := bcell hb3
      have hl' := HL.out
      go_wp2_with fail
      refine (total_ok T A B _ T1 T2 HG.out.2.2.1 HG.out.2.2.2.1 HG.out.2.2.2.2).mono ?_
      rintro e w4 ⟨rfl, hb4⟩
      go_wp2
      go_ret
      exact RetB.bool rfl ((hb02.trans (hb3.mono hb02.size)).trans (hb4.mono (Nat.le_trans hb02.size hb3.size)))
end Go.Proofs.Ytifmmiclhffmhaa
