/-
  Fields: which primes are permitted; inverses and powers.
-/
import Derived.Test.YtkjpnhhkebbmdaaDoorFieldV
namespace Go.Proofs.YtkjpnhhkebbmdaaDoor
open Go.RowKit

/-- The table of bases holds 2, 3, 5, 7. -/
def Bases (w : World) : Prop :=
  0 < w.heap.size ∧ w.cell? ⟨0, 0, none⟩ = some (.int .i64 2) ∧ w.cell? ⟨0, 1, none⟩ = some (.int .i64 3) ∧ w.cell? ⟨0, 2, none⟩ = some (.int .i64 5) ∧ w.cell? ⟨0, 3, none⟩ = some (.int .i64 7)
theorem Bases.below {w w' : World} {B : Nat} (h : Bases w) (hb : Below B w w') (hB : 0 < B) : Bases w' := by
  obtain ⟨h0, h1, h2, h3, h4⟩ := h
  exact ⟨Nat.lt_of_lt_of_le h0 hb.size, (hb.cell hB).trans h1, (hb.cell hB).trans h2, (hb.cell hB).trans h3, (hb.cell hB).trans h4⟩
theorem Bases.keep {w w' : World} (h : Bases w) (hb : Below w.heap.size w w') : Bases w' := h.below hb h.1

def validI (p : Int) : Bool := if p < 2 then false else validF p.toNat
theorem validI_small {p : Int} (h : p < 2) : false = validI p := by unfold validI; rw [if_pos h]
theorem validI_nat {p : Nat} (h : 2 ≤ p) : validF p = validI (p : Int) := by unfold validI; rw [if_neg (by omega), Int.toNat_natCast]
theorem validI_big {p : Int} (h : 1073741824 < p) : false = validI p := by
  unfold validI; rw [if_neg (by omega)]; unfold validF; rw [if_pos]; omega
theorem validF_even {p : Nat} (h : 2 < p ∧ p % 2 = 0) : false = validF p := by unfold validF; rw [if_pos (.inr (.inr h))]
theorem validF_go {p : Nat} (h : ¬ (p < 2 ∨ 1073741824 < p ∨ (2 < p ∧ p % 2 = 0))) : vGo p [2, 3, 5, 7] = validF p := by unfold validF; rw [if_neg h]
theorem vGo_eq {p b : Nat} {l : List Nat} (h : p = b) : vGo p (b :: l) = true := if_pos h
theorem vGo_div {p b : Nat} {l : List Nat} (h : ¬ p = b) (h2 : p % b = 0) : vGo p (b :: l) = false := by unfold vGo; rw [if_neg h, if_pos h2]
theorem vGo_pass {p b : Nat} {l : List Nat} (h : ¬ p = b) (h2 : ¬ p % b = 0) (h3 : mrPass p b = true) : vGo p (b :: l) = vGo p l := by
  conv => lhs; unfold vGo
  rw [if_neg h, if_neg h2, if_pos h3]
theorem vGo_fail {p b : Nat} {l : List Nat} (h : ¬ p = b) (h2 : ¬ p % b = 0) (h3 : mrPass p b = false) : vGo p (b :: l) = false := by
  unfold vGo; rw [if_neg h, if_neg h2, if_neg (by rw [h3]; simp)]
def basis (k : Nat) : Nat := [2, 3, 5, 7].getD k 0
theorem basis_drop (k : Nat) (h : k < 4) : [2, 3, 5, 7].drop k = basis k :: [2, 3, 5, 7].drop (k + 1) := by
  have : k = 0 ∨ k = 1 ∨ k = 2 ∨ k = 3 := by omega
  rcases this with rfl | rfl | rfl | rfl <;> rfl
theorem basis_bd (k : Nat) (h : k < 4) : 2 ≤ basis k ∧ basis k ≤ 7 := by
  have : k = 0 ∨ k = 1 ∨ k = 2 ∨ k = 3 := by omega
  rcases this with rfl | rfl | rfl | rfl <;> decide
theorem ib0 (w : World) : (Instr.index 93 (.agg #[.int .i64 2, .int .i64 3, .int .i64 5, .int .i64 7]) (.int .i64 0)).run Tryd.prog w = .ok (.int .i64 2) w := by kernel_rfl
theorem ib1 (w : World) : (Instr.index 93 (.agg #[.int .i64 2, .int .i64 3, .int .i64 5, .int .i64 7]) (.int .i64 1)).run Tryd.prog w = .ok (.int .i64 3) w := by kernel_rfl
theorem ib2 (w : World) : (Instr.index 93 (.agg #[.int .i64 2, .int .i64 3, .int .i64 5, .int .i64 7]) (.int .i64 2)).run Tryd.prog w = .ok (.int .i64 5) w := by kernel_rfl
theorem ib3 (w : World) : (Instr.index 93 (.agg #[.int .i64 2, .int .i64 3, .int .i64 5, .int .i64 7]) (.int .i64 3)).run Tryd.prog w = .ok (.int .i64 7) w := by kernel_rfl
theorem index_bases (k : Nat) (h : k < 4) (w : World) : (Instr.index 93 (.agg #[.int .i64 2, .int .i64 3, .int .i64 5, .int .i64 7]) (.int .i64 k)).run Tryd.prog w = .ok (.int .i64 (basis k : Nat)) w := by
  have : k = 0 ∨ k = 1 ∨ k = 2 ∨ k = 3 := by omega
  rcases this with rfl | rfl | rfl | rfl
  · exact ib0 w
  · exact ib1 w
  · exact ib2 w
  · exact ib3 w

set_option maxHeartbeats 800000 in
theorem valid_mid (p : Nat) (w : World) (hB : Bases w) (h2 : 2 ≤ p) (h3 : p ≤ 1073741824) (hodd : ¬ (2 < p ∧ p % 2 = 0)) :
    Calls Tryd.prog 42 #[.int .i64 p] w (Ret (.bool (validI p)) w) := by
  obtain ⟨_, b0, b1, b2, b3⟩ := hB
  have HV := Lib.hid ((validF_go (by omega)).trans (validI_nat h2))
  have d1 : decide ((p : Int) < 2) = false := decide_eq_false (by omega)
  have d2 : decide (1073741824 < (p : Int)) = false := decide_eq_false (by omega)
  have hs : p = 2 ∨ 3 ≤ p ∧ p % 2 = 1 := by omega
  have hS : Hid (p = 2 ∨ 3 ≤ p ∧ p % 2 = 1) := hs
  have t1 : ((p : Int) % 2 == 0) = decide (p = 2) := by
    rcases hs with h | h
    · subst h; rfl
    · rw [decide_eq_false (by omega)]; simp; omega
  have t0 : decide (2 < (p : Int)) = decide (3 ≤ p) := by
    by_cases h : 3 ≤ p
    · rw [decide_eq_true h, decide_eq_true (by omega)]
    · rw [decide_eq_false h, decide_eq_false (by omega)]
  clear hs
  by_cases hp2 : p = 2
  · subst hp2
    go_enter Tryd.func42, Tryd.ntmps42
    go_wp2_with fail
    refine wp_loop_rounds 1 ?_
    rw [rounds_succ]
    have i0 := ib0
    go_wp2_with fail
    go_ret
    exact Ret.bool HV.out
  · have hp3 : 3 ≤ p := by omega
    rw [decide_eq_false hp2] at t1
    clear t0
    go_enter Tryd.func42, Tryd.ntmps42
    go_wp2_with fail
    go_loop [21] (fun i => ∃ k : Nat, k ≤ 4 ∧ i = .int .i64 k ∧ vGo p ([2, 3, 5, 7].drop k) = validI p) (fun i => 4 - (intOf i).toNat)
    case atStart => exact ⟨0, by omega, rfl, HV.out⟩
    case round =>
      obtain ⟨k, hk, rfl, hgo⟩ := hrel
      have HG := Lib.hid hgo
      clear hgo t1 d1 d2
      by_cases hk4 : k < 4
      · have hix := index_bases k hk4
        obtain ⟨bb1, bb2⟩ := basis_bd k hk4
        have HD := Lib.hid (basis_drop k hk4)
        generalize hbas : basis k = b at *
        clear hbas
        by_cases hpb : p = b
        · have t2 : ((p : Int) == (b : Int)) = true := by simp; omega
          have HR := Lib.hid (show true = validI p by rw [← HG.out, HD.out, vGo_eq hpb])
          clear hpb
          go_wp2_with fail
          go_ret
          exact Ret.bool HR.out
        · have t2 : ((p : Int) == (b : Int)) = false := by simp; omega
          by_cases hdiv : p % b = 0
          · have t3 : ((p : Int) % (b : Int) == 0) = true := by rw [← Int.natCast_emod]; simp; omega
            have HR := Lib.hid (show false = validI p by rw [← HG.out, HD.out, vGo_div hpb hdiv])
            clear hpb hdiv
            go_wp2_with fail
            go_ret
            exact Ret.bool HR.out
          · have t3 : ((p : Int) % (b : Int) == 0) = false := by rw [← Int.natCast_emod]; simp; omega
            have HP := Lib.hid (fun w => passes_any p b w hp3 (by omega) (by omega))
            cases hmr : mrPass p b
            · have HR := Lib.hid (show false = validI p by rw [← HG.out, HD.out, vGo_fail hpb hdiv hmr])
              have HM := Lib.hid hmr
              clear hpb hdiv hmr
              go_wp2_with fail
              refine ret_pure (HP.out _) ?_
              rw [HM.out]
              go_wp2_with fail
              go_ret
              exact Ret.bool HR.out
            · have HR := Lib.hid (show vGo p ([2, 3, 5, 7].drop (k + 1)) = validI p by rw [← HG.out, HD.out, vGo_pass hpb hdiv hmr])
              have HM := Lib.hid hmr
              clear hpb hdiv hmr
              go_wp2_with fail
              refine ret_pure (HP.out _) ?_
              rw [HM.out]
              go_wp2_with fail
              go_round
              case rel => exact ⟨k + 1, by omega, by go_num, HR.out⟩
              case measure => simp [intOf]; omega
      · have HR := Lib.hid (show true = validI p by rw [← HG.out, show k = 4 by omega]; rfl)
        go_wp2_with fail
        go_ret
        exact Ret.bool HR.out

set_option maxHeartbeats 400000 in
theorem valid_any (p : Int) (w : World) (hB : Bases w) : Calls Tryd.prog 42 #[.int .i64 p] w (Ret (.bool (validI p)) w) := by
  by_cases h1 : p < 2
  · have HV := Lib.hid (validI_small h1)
    go_enter Tryd.func42, Tryd.ntmps42
    go_wp2
    go_ret
    exact Ret.bool HV.out
  · by_cases h2 : 1073741824 < p
    · have HV := Lib.hid (validI_big h2)
      go_enter Tryd.func42, Tryd.ntmps42
      go_wp2
      go_ret
      exact Ret.bool HV.out
    · obtain ⟨p, rfl⟩ := Int.eq_ofNat_of_zero_le (show 0 ≤ p by omega)
      by_cases h3 : 2 < p ∧ p % 2 = 0
      · have HV := Lib.hid ((validF_even h3).trans (validI_nat (by omega)))
        have t1 : ((p : Int) % 2 == 0) = true := by simp; omega
        have t2 : 2 < (p : Int) := by omega
        clear h3
        go_enter Tryd.func42, Tryd.ntmps42
        go_wp2
        go_ret
        exact Ret.bool HV.out
      · exact valid_mid p w hB (by omega) (by omega) h3
end Go.Proofs.YtkjpnhhkebbmdaaDoor
