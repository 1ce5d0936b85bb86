/-
  Polynomials: the document's values, degrees, and polynomials without the zeros at their end.
-/
import Derived.Test.YtkjpnhhkebbmdaaDoorPolD
namespace Go.Proofs.YtkjpnhhkebbmdaaDoor
open Go.RowKit

theorem ev_ref (p v x c : Nat) : (v * x + c) % p = fadd p (fmul p v x) c := by unfold fadd fmul; rw [Nat.mod_add_mod]
theorem evN_drop {p : Nat} {L : List Nat} {x m : Nat} (h : m < L.length) : evN p (L.drop m) x = fadd p (fmul p (evN p (L.drop (m + 1)) x) x) (nthN L m) := by
  rw [List.drop_eq_getElem_cons h, ← nthN_eq h]; rfl
set_option maxRecDepth 100000 in
set_option maxHeartbeats 400000 in
theorem refEval_any (p x : Nat) (A : Option Addr) (L : List Nat) (cap : Nat) (w : World) (hp : 1 ≤ p) (hp2 : p ≤ 2147483648) (hx : x < p) (hL : ∀ c ∈ L, c < p) (hN : NatsAt w A L) (hl : L.length ≤ 1073741824) :
    Calls Tryd.prog 48 #[.int .i64 p, .slice A L.length cap, .int .i64 x] w (Ret (.int .i64 (evN p L x : Nat)) w) := by
  have HN := Lib.hid hN
  have HL := Lib.hid hL
  have t2 : ((p : Int) == 0) = false := by simp; omega
  have t3 : ¬ (p : Int) = 0 := by omega
  clear hN hL
  go_enter Tryd.func48, Tryd.ntmps48
  go_wp2
  go_loop [7, 8] (fun o i => ∃ (m v : Nat), m ≤ L.length ∧ i = .int .i64 ((m : Int) - 1) ∧ o = .int .i64 v ∧ v < p ∧ v = evN p (L.drop m) x) (fun _ i => (intOf i + 1).toNat)
  case atStart => exact ⟨L.length, 0, Nat.le_refl _, rfl, rfl, by omega, by rw [List.drop_length]; rfl⟩
  case round =>
    obtain ⟨m, v, hm, rfl, rfl, hv, hve⟩ := hrel
    have HV := Lib.hid hve
    clear hve
    rcases m with _ | m
    · rw [show (((0 : Nat) : Int) - 1) = -1 from rfl]
      go_wp2
      go_ret
      exact Ret.int (by rw [HV.out]; rfl)
    · rw [show (((m + 1 : Nat) : Int) - 1) = (m : Int) by omega]
      obtain ⟨b, off, rfl, _, hcell⟩ := HN.out m (by omega)
      have hc := nthN_lt hp HL.out m
      have hm1 := mulN_bound hv hx hp2
      have q1 : (v : Int) * (x : Int) = (v * x : Nat) := by push_cast; rfl
      have w1 : IntKind.i64.wrap ((v : Int) * (x : Int)) = (v : Int) * (x : Int) := IntWalk.i64_in _ (by omega)
      have w2 : IntKind.i64.wrap ((v : Int) * (x : Int) + (nthN L m : Int)) = (v : Int) * (x : Int) + (nthN L m : Int) := IntWalk.i64_in _ (by omega)
      have r1 : ((v : Int) * (x : Int) + (nthN L m : Int)).tmod p = (fadd p (fmul p v x) (nthN L m) : Nat) := by
        rw [q1, ← Int.natCast_add, Int.tmod_eq_emod_of_nonneg (by omega), ← Int.natCast_emod, ev_ref]
      have hl2 := fadd_lt hp (fmul p v x) (nthN L m)
      have HE := Lib.hid (evN_drop (p := p) (x := x) (show m < L.length by omega))
      clear q1 hm1
      go_wp2
      go_round
      case rel => exact ⟨m, fadd p (fmul p v x) (nthN L m), by omega, rfl, rfl, hl2, by rw [HE.out, ← HV.out]⟩
      case measure => simp [intOf]

end Go.Proofs.YtkjpnhhkebbmdaaDoor
