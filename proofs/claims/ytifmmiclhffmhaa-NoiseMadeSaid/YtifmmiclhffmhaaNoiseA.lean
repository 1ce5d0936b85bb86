/-
  The noise of layer 38: contracts of the program's functions.
-/
import Derived.Test.YtifmmiclhffmhaaBase
namespace Go.Proofs.Ytifmmiclhffmhaa
open Go.RowKit

def powW (x : Int) : Nat → Int
  | 0 => 1
  | k+1 => wrap64 (powW x k * x)
def nOK (T A B : Int) : Bool := decide (1 ≤ T ∧ T ≤ 24 ∧ 1 ≤ A ∧ A < B ∧ B ≤ 4)
def checkN (T A B : Int) : Int := if nOK T A B then 0 else 57
theorem checkN_ok {T A B : Int} (h : 1 ≤ T ∧ T ≤ 24 ∧ 1 ≤ A ∧ A < B ∧ B ≤ 4) : checkN T A B = 0 := by unfold checkN nOK; simp [h]
theorem checkN_bad {T A B : Int} (h : ¬ (1 ≤ T ∧ T ≤ 24 ∧ 1 ≤ A ∧ A < B ∧ B ≤ 4)) : checkN T A B = 57 := by unfold checkN nOK; simp [h]
abbrev nz (T A B : Int) : Value := .agg #[.int .i64 T, .int .i64 A, .int .i64 B]
def weightW (T A B c z : Int) : Int :=
  if z = 0 ∨ z = T then wrap64 (wrap64 (powW A (max (c - z) (z - c)).toNat * powW B (T - max (c - z) (z - c)).toNat) * B)
  else wrap64 (wrap64 (powW A (max (c - z) (z - c)).toNat * powW B (T - max (c - z) (z - c)).toNat) * (B - A))
theorem weightW_eq {T A B c z d x : Int} (hd : max (c - z) (z - c) = d) (hx : wrap64 (powW A d.toNat * powW B (T - d).toNat) = x) (hz : z = 0 ∨ z = T) : wrap64 (x * B) = weightW T A B c z := by
  unfold weightW; rw [if_pos hz, hd, hx]
theorem weightW_ne {T A B c z d x : Int} (hd : max (c - z) (z - c) = d) (hx : wrap64 (powW A d.toNat * powW B (T - d).toNat) = x) (hz : ¬ (z = 0 ∨ z = T)) : wrap64 (x * (B - A)) = weightW T A B c z := by
  unfold weightW; rw [if_neg hz, hd, hx]
def inB (n l h : Int) : Bool := decide (l ≤ n ∧ n ≤ h)
theorem inB_t {n l h : Int} (q : l ≤ n ∧ n ≤ h) : true = inB n l h := by simp [inB, q]
theorem inB_f {n l h : Int} (q : ¬ (l ≤ n ∧ n ≤ h)) : false = inB n l h := by simp [inB, q]

set_option maxHeartbeats 400000 in
theorem power_any (x n : Int) (w : World) (hn : n ≤ 9223372036854775807) :
    Calls Try.prog 26 #[.int .i64 x, .int .i64 n] w (Ret (.int .i64 (powW x n.toNat)) w) := by
  go_enter Try.func26, Try.ntmps26
  go_wp2
  go_loop [5, 7] (fun o i => ∃ k : Nat, k ≤ n.toNat ∧ i = .int .i64 k ∧ o = .int .i64 (powW x k)) (fun _ i => n.toNat - (intOf i).toNat)
  case atStart => exact ⟨0, Nat.zero_le _, rfl, rfl⟩
  case round =>
    obtain ⟨k, hk, rfl, rfl⟩ := hrel
    by_cases hlt : (k : Int) < n
    · go_wp2
      go_round
      case rel => exact ⟨k + 1, by omega, by go_num, rfl⟩
      case measure => simp [intOf]; omega
    · go_wp2
      go_ret
      exact Ret.int (by rw [show n.toNat = k by omega])

set_option maxHeartbeats 400000 in
theorem rpower_any (x n : Int) (w : World) (hn : n ≤ 9223372036854775807) :
    Calls Try.prog 36 #[.int .i64 x, .int .i64 n] w (Ret (.int .i64 (powW x n.toNat)) w) := by
  go_enter Try.func36, Try.ntmps36
  go_wp2
  go_loop [5, 6] (fun o i => ∃ k : Nat, k ≤ n.toNat ∧ i = .int .i64 k ∧ o = .int .i64 (powW x k)) (fun _ i => n.toNat - (intOf i).toNat)
  case atStart => exact ⟨0, Nat.zero_le _, rfl, rfl⟩
  case round =>
    obtain ⟨k, hk, rfl, rfl⟩ := hrel
    by_cases hlt : (k : Int) < n
    · go_wp2
      go_round
      case rel => exact ⟨k + 1, by omega, by go_num, rfl⟩
      case measure => simp [intOf]; omega
    · go_wp2
      go_ret
      exact Ret.int (by rw [show n.toNat = k by omega])

set_option maxHeartbeats 400000 in
theorem in_any (n l h : Int) (w : World) :
    Calls Try.prog 23 #[.int .i64 n, .int .i64 l, .int .i64 h] w (Ret (.bool (inB n l h)) w) := by
  by_cases h1 : l ≤ n <;> by_cases h2 : n ≤ h
  all_goals
    go_enter Try.func23, Try.ntmps23
    go_wp2
    go_ret
    first | exact Ret.bool (inB_t ⟨h1, h2⟩) | exact Ret.bool (inB_f (by omega))

set_option maxHeartbeats 400000 in
theorem check_any (T A B : Int) (w : World) :
    Calls Try.prog 22 #[nz T A B] w (RetB (.int .i64 (checkN T A B)) w) := by
  go_enter Try.func22, Try.ntmps22
  go_wp2
  all_goals go_ret
  all_goals refine RetB.int ?_ ((Below.refl _ _).alloc (Nat.le_refl _) _)
  all_goals first | exact (checkN_ok (by omega)).symm | exact (checkN_bad (by omega)).symm

set_option maxHeartbeats 400000 in
theorem rcheck_any (T A B : Int) (w : World) :
    Calls Try.prog 30 #[nz T A B] w (RetB (.int .i64 (checkN T A B)) w) := by
  go_enter Try.func30, Try.ntmps30
  go_wp2
  all_goals go_ret
  all_goals refine RetB.int ?_ ((Below.refl _ _).alloc (Nat.le_refl _) _)
  all_goals first | exact (checkN_ok (by omega)).symm | exact (checkN_bad (by omega)).symm

set_option maxHeartbeats 400000 in
theorem weight_any (T A B c z : Int) (w : World) (ht : 1 ≤ T) (ht2 : T ≤ 24) (hA : 1 ≤ A) (hAB : A < B) (hB : B ≤ 4) (hc : 0 ≤ c) (hc2 : c ≤ T) (hz : 0 ≤ z) (hz2 : z ≤ T) :
    Calls Try.prog 24 #[nz T A B, .int .i64 c, .int .i64 z] w (RetB (.int .i64 (weightW T A B c z)) w) := by
  go_enter Try.func24, Try.ntmps24
  go_wp2
  all_goals go_quiet ((go_at_call 26; exact Calls.quiet_of_same (power_any _ _ _ (by omega))))
  all_goals go_wp2
  all_goals go_ret
  all_goals refine RetB.int ?_ (((Below.refl _ _).alloc (Nat.le_refl _) _).trans ⟨rfl, rfl, rfl, Nat.le_refl _, fun _ _ => rfl⟩)
  all_goals first | exact weightW_eq (by omega) rfl (by simp_all) | exact weightW_ne (by omega) rfl (by simp_all)

set_option maxHeartbeats 400000 in
theorem rweight_any (T A B c z : Int) (w : World) (ht : 1 ≤ T) (ht2 : T ≤ 24) (hA : 1 ≤ A) (hAB : A < B) (hB : B ≤ 4) (hc : 0 ≤ c) (hc2 : c ≤ T) (hz : 0 ≤ z) (hz2 : z ≤ T) :
    Calls Try.prog 33 #[nz T A B, .int .i64 c, .int .i64 z] w (RetB (.int .i64 (weightW T A B c z)) w) := by
  go_enter Try.func33, Try.ntmps33
  go_wp2
  all_goals go_quiet ((go_at_call 36; exact Calls.quiet_of_same (rpower_any _ _ _ (by omega))))
  all_goals go_wp2
  all_goals go_ret
  all_goals refine RetB.int ?_ (((Below.refl _ _).alloc (Nat.le_refl _) _).trans ⟨rfl, rfl, rfl, Nat.le_refl _, fun _ _ => rfl⟩)
  all_goals first | exact weightW_eq (by omega) rfl (by simp_all) | exact weightW_ne (by omega) rfl (by simp_all)

end Go.Proofs.Ytifmmiclhffmhaa
