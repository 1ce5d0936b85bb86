/-
  Lists of elements, the document's combination of lists; which numbers are prime by the document.
-/
import Derived.Test.YtkjpnhhkebbmdaaDoorNatsP
namespace Go.Proofs.YtkjpnhhkebbmdaaDoor
open Go.RowKit

/-! ### ref.Linear -/
def lastN (p : Nat) (L M : List Nat) (c k : Nat) : Nat := fadd p (nthN L k) (fmul p c (nthN M k))
theorem lin_both {p : Nat} {L M : List Nat} {c k : Nat} : (nthN L k + c * nthN M k) % p = lastN p L M c k := by
  unfold lastN fadd fmul; rw [Nat.add_mod_mod]
theorem lin_left {p : Nat} (hp : 1 ≤ p) {L M : List Nat} {c k : Nat} (hL : ∀ x ∈ L, x < p) (h : M.length ≤ k) : nthN L k = lastN p L M c k := by
  unfold lastN fadd fmul; rw [nthN_ge h, Nat.mul_zero, Nat.zero_mod, Nat.add_zero, Nat.mod_eq_of_lt (nthN_lt hp hL k)]
theorem lin_right {p : Nat} {L M : List Nat} {c k : Nat} (h : L.length ≤ k) : (0 + c * nthN M k) % p = lastN p L M c k := by
  rw [← lin_both, nthN_ge h]
theorem linN_take_succ {p : Nat} {L M : List Nat} {c k : Nat} (h : k < max L.length M.length) : (linN p L M c).take (k + 1) = (linN p L M c).take k ++ [lastN p L M c k] := by
  have hk : k < (linN p L M c).length := by rw [linN_len]; exact h
  rw [List.take_succ_eq_append_getElem hk, ← nthN_eq hk, linN_nth h]; rfl

def NewList (L : List Nat) (w : World) (e : Ending) (w' : World) : Prop :=
  ∃ v, e = .returned v ∧ w'.ownsRow w.heap.size 3 1 v L.length (valsN L) ∧ Below w.heap.size w w'

set_option maxHeartbeats 1000000 in
theorem refLinear_any (p : Nat) (A B : Option Addr) (L M : List Nat) (ca cb c : Nat) (w : World) (hp : 1 ≤ p) (hp2 : p ≤ 2147483648) (hA : NatsAt w A L) (hB : NatsAt w B M)
    (hL : ∀ x ∈ L, x < p) (hM : ∀ x ∈ M, x < p) (hc : c < p) (hl : L.length ≤ 1073741824) (hm : M.length ≤ 1073741824) :
    Calls Tryd.prog 39 #[.int .i64 p, .slice A L.length ca, .slice B M.length cb, .int .i64 c] w (NewList (linN p L M c) w) := by
  have HA := Lib.hid hA
  have HB := Lib.hid hB
  have HL := Lib.hid hL
  have HM := Lib.hid hM
  clear hA hB hL hM
  obtain ⟨n, hn⟩ : ∃ n, n = max L.length M.length := ⟨_, rfl⟩
  have HN := Lib.hid hn
  have hn1 : L.length ≤ n := by omega
  have hn2 : M.length ≤ n := by omega
  have hn3 : n ≤ 1073741824 := by omega
  have t2 : ((p : Int) == 0) = false := by simp; omega
  have t3 : ¬ (p : Int) = 0 := by omega
  clear hn
  go_enter Tryd.func39, Tryd.ntmps39
  go_wp2_with fail
  all_goals
    go_loopw [9, 17] (fun l i wr => ∃ (k : Nat) (T : List Nat), k ≤ n ∧ i = .int .i64 k ∧ T = (linN p L M c).take k ∧ T.length = k ∧ wr.ownsRow w.heap.size 3 1 l T.length (valsN T) ∧ Below w.heap.size w wr) (fun _ i _ => n - (intOf i).toNat)
    case atStart => exact ⟨0, [], by omega, rfl, rfl, rfl, World.ownsRow_nil _ _ _ _, Below.refl _ _⟩
    case round =>
      obtain ⟨k, T, hk, rfl, hT, hTl, hown, hbr⟩ := hrel
      have HT := Lib.hid hT
      have HTl := Lib.hid hTl
      have hTl1 : T.length ≤ k := by omega
      have hTl2 : k ≤ T.length := by omega
      have hbs := hbr.size
      clear hT hTl
      by_cases hkn : k < n
      · have hll := fadd_lt hp (nthN L k) (fmul p c (nthN M k))
        rw [show fadd p (nthN L k) (fmul p c (nthN M k)) = lastN p L M c k from rfl] at hll
        by_cases hkM : k < M.length
        · obtain ⟨bB, oB, rfl, hbB, hcB⟩ := (HB.out.below hbr) k hkM
          have hyp := nthN_lt hp HM.out k
          have hm1 := mulN_bound hc hyp hp2
          have hxp := nthN_lt hp HL.out k
          by_cases hkL : k < L.length
          · obtain ⟨bA, oA, rfl, hbA, hcA⟩ := (HA.out.below hbr) k hkL
            have q1 : (c : Int) * (nthN M k : Int) = (c * nthN M k : Nat) := by push_cast; rfl
            have w1 : IntKind.i64.wrap ((c : Int) * (nthN M k : Int)) = (c : Int) * (nthN M k : Int) := IntWalk.i64_in _ (by omega)
            have w2 : IntKind.i64.wrap ((nthN L k : Int) + (c : Int) * (nthN M k : Int)) = (nthN L k : Int) + (c : Int) * (nthN M k : Int) := IntWalk.i64_in _ (by omega)
            have r1 : ((nthN L k : Int) + (c : Int) * (nthN M k : Int)).tmod p = (lastN p L M c k : Nat) := by
              rw [q1, ← Int.natCast_add, Int.tmod_eq_emod_of_nonneg (by omega), ← Int.natCast_emod, lin_both]
            clear q1 hm1
            go_wp2_with (at_builtin; refine app_one rfl (.tmp 42) (.tmp 44) 22 rfl (base := w.heap.size) Tryd.underlying22 info_int rfl rfl hown rfl rfl (by simp only [maxLen]; omega) (by omega) hbs ?_; intro v4 w4 hown4 hg4 hb4)
            have HH := Lib.hid (hbr.trans hb4)
            go_roundw
            case rel =>
              refine ⟨k + 1, T ++ [lastN p L M c k], by omega, by go_num, by rw [HT.out]; exact (linN_take_succ (by rw [← HN.out]; exact hkn)).symm, by simp; exact HTl.out, ?_, HH.out⟩
              simpa [valsN] using hown4
            case measure => simp [intOf]; omega
          · have q1 : (c : Int) * (nthN M k : Int) = (c * nthN M k : Nat) := by push_cast; rfl
            have w1 : IntKind.i64.wrap ((c : Int) * (nthN M k : Int)) = (c : Int) * (nthN M k : Int) := IntWalk.i64_in _ (by omega)
            have w2 : IntKind.i64.wrap (0 + (c : Int) * (nthN M k : Int)) = (c : Int) * (nthN M k : Int) := by rw [Int.zero_add]; exact w1
            have r1 : ((c : Int) * (nthN M k : Int)).tmod p = (lastN p L M c k : Nat) := by
              rw [q1, Int.tmod_eq_emod_of_nonneg (by omega), ← Int.natCast_emod, ← lin_right (by omega), Nat.zero_add]
            clear q1 hm1
            try (exfalso; omega)
            all_goals
              go_wp2_with (at_builtin; refine app_one rfl (.tmp 42) (.tmp 44) 22 rfl (base := w.heap.size) Tryd.underlying22 info_int rfl rfl hown rfl rfl (by simp only [maxLen]; omega) (by omega) hbs ?_; intro v4 w4 hown4 hg4 hb4)
              have HH := Lib.hid (hbr.trans hb4)
              go_roundw
              case rel =>
                refine ⟨k + 1, T ++ [lastN p L M c k], by omega, by go_num, by rw [HT.out]; exact (linN_take_succ (by rw [← HN.out]; exact hkn)).symm, by simp; exact HTl.out, ?_, HH.out⟩
                simpa [valsN] using hown4
              case measure => simp [intOf]; omega
        · obtain ⟨bA, oA, rfl, hbA, hcA⟩ := (HA.out.below hbr) k (by have := HN.out; omega)
          rw [lin_left (c := c) hp HL.out (show M.length ≤ k by omega)] at hcA
          have hkL : k < L.length := by have := HN.out; omega
          try (exfalso; omega)
          all_goals
            go_wp2_with (at_builtin; refine app_one rfl (.tmp 42) (.tmp 44) 22 rfl (base := w.heap.size) Tryd.underlying22 info_int rfl rfl hown rfl rfl (by simp only [maxLen]; omega) (by omega) hbs ?_; intro v4 w4 hown4 hg4 hb4)
            have HH := Lib.hid (hbr.trans hb4)
            go_roundw
            case rel =>
              refine ⟨k + 1, T ++ [lastN p L M c k], by omega, by go_num, by rw [HT.out]; exact (linN_take_succ (by rw [← HN.out]; exact hkn)).symm, by simp; exact HTl.out, ?_, HH.out⟩
              simpa [valsN] using hown4
            case measure => simp [intOf]; omega
      · have hkn2 : k = n := by omega
        have HK := Lib.hid (show T = linN p L M c by rw [HT.out]; exact List.take_of_length_le (by rw [linN_len, hkn2]; have := HN.out; omega))
        clear hkn2
        go_wp2_with fail
        go_ret
        exact ⟨_, rfl, by rw [← HK.out]; exact hown, hbr⟩
end Go.Proofs.YtkjpnhhkebbmdaaDoor
