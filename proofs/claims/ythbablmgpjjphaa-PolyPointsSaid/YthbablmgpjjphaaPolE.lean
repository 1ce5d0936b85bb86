/-
  Polynomials: the document's values, degrees, and polynomials without the zeros at their end.
-/
import Derived.Test.YthbablmgpjjphaaPolD
namespace Go.Proofs.Ythbablmgpjjphaa
open Go.RowKit

theorem dgI_zero {L : List Nat} (h : ∀ j, 0 ≤ j → nthN L j = 0) : -1 = dgI L := by
  have : dgN L = 0 := dgN_eq (fun k _ => h k (by omega)) (fun h => absurd h (by omega))
  unfold dgI; omega
theorem dgI_at {L : List Nat} {m : Nat} (h : ∀ j, m + 1 ≤ j → nthN L j = 0) (h0 : nthN L m ≠ 0) : (m : Int) = dgI L := by
  have : dgN L = m + 1 := dgN_eq h (fun _ => h0)
  unfold dgI; omega

set_option maxRecDepth 100000 in
set_option maxHeartbeats 400000 in
theorem refDegree_any (A : Option Addr) (L : List Nat) (cap : Nat) (w : World) (hN : NatsAt w A L) (hl : L.length ≤ 1073741824) :
    Calls Try.prog 19 #[.slice A L.length cap] w (Ret (.int .i64 (dgI L)) w) := by
  have HN := Lib.hid hN
  clear hN
  go_enter Try.func19, Try.ntmps19
  go_wp2
  go_loop [3] (fun i => ∃ m : Nat, m ≤ L.length ∧ i = .int .i64 ((m : Int) - 1) ∧ (∀ j, m ≤ j → nthN L j = 0)) (fun i => (intOf i + 1).toNat)
  case atStart => exact ⟨L.length, Nat.le_refl _, rfl, fun j hj => nthN_ge hj⟩
  case round =>
    obtain ⟨m, hm, rfl, hz⟩ := hrel
    have HZ := Lib.hid hz
    clear hz
    rcases m with _ | m
    · have HV := Lib.hid (dgI_zero HZ.out)
      rw [show (((0 : Nat) : Int) - 1) = -1 from rfl]
      go_wp2
      go_ret
      exact Ret.int HV.out
    · rw [show (((m + 1 : Nat) : Int) - 1) = (m : Int) by omega]
      obtain ⟨b, off, rfl, _, hcell⟩ := HN.out m (by omega)
      by_cases h0 : nthN L m = 0
      · have t0 : ((nthN L m : Int) != 0) = false := by simp [h0]
        have H0 := Lib.hid h0
        clear h0
        go_wp2
        go_round
        case rel =>
          refine ⟨m, by omega, rfl, fun j hj => ?_⟩
          rcases Nat.eq_or_lt_of_le hj with h | h
          · rw [← h]; exact H0.out
          · exact HZ.out j h
        case measure => simp [intOf]
      · have t0 : ((nthN L m : Int) != 0) = true := by simp; omega
        have HV := Lib.hid (dgI_at HZ.out h0)
        clear h0
        go_wp2
        go_ret
        exact Ret.int HV.out

theorem ev_ref (p v x c : Nat) : (v * x + c) % p = fadd p (fmul p v x) c := by unfold fadd fmul; rw [Nat.mod_add_mod]
theorem evN_drop {p : Nat} {L : List Nat} {x m : Nat} (h : m < L.length) : evN p (L.drop m) x = fadd p (fmul p (evN p (L.drop (m + 1)) x) x) (nthN L m) := by
  rw [List.drop_eq_getElem_cons h, ← nthN_eq h]; rfl
set_option maxRecDepth 100000 in
set_option maxHeartbeats 400000 in
theorem refEval_any (p x : Nat) (A : Option Addr) (L : List Nat) (cap : Nat) (w : World) (hp : 1 ≤ p) (hp2 : p ≤ 2147483648) (hx : x < p) (hL : ∀ c ∈ L, c < p) (hN : NatsAt w A L) (hl : L.length ≤ 1073741824) :
    Calls Try.prog 17 #[.int .i64 p, .slice A L.length cap, .int .i64 x] w (Ret (.int .i64 (evN p L x : Nat)) w) := by
  have HN := Lib.hid hN
  have HL := Lib.hid hL
  have t2 : ((p : Int) == 0) = false := by simp; omega
  have t3 : ¬ (p : Int) = 0 := by omega
  clear hN hL
  go_enter Try.func17, Try.ntmps17
  go_wp2
  go_loop [7, 8] (fun o i => ∃ (m v : Nat), m ≤ L.length ∧ i = .int .i64 ((m : Int) - 1) ∧ o = .int .i64 v ∧ v < p ∧ v = evN p (L.drop m) x) (fun _ i => (intOf i + 1).toNat)
  case atStart => exact ⟨L.length, 0, Nat.le_refl _, rfl, rfl, by omega, by rw [List.drop_length]; rfl⟩
  case round =>
    obtain ⟨m, v, hm, rfl, rfl, hv, hve⟩ := hrel
    have HV := Lib.hid hve
    clear hve
    rcases m with _ | m
    · rw [show (((0 : Nat) : Int) - 1) = -1 from rfl]
      go_wp2
      go_ret
      exact Ret.int (by rw [HV.out]; rfl)
    · rw [show (((m + 1 : Nat) : Int) - 1) = (m : Int) by omega]
      obtain ⟨b, off, rfl, _, hcell⟩ := HN.out m (by omega)
      have hc := nthN_lt hp HL.out m
      have hm1 := mulN_bound hv hx hp2
      have q1 : (v : Int) * (x : Int) = (v * x : Nat) := by push_cast; rfl
      have w1 : IntKind.i64.wrap ((v : Int) * (x : Int)) = (v : Int) * (x : Int) := IntWalk.i64_in _ (by omega)
      have w2 : IntKind.i64.wrap ((v : Int) * (x : Int) + (nthN L m : Int)) = (v : Int) * (x : Int) + (nthN L m : Int) := IntWalk.i64_in _ (by omega)
      have r1 : ((v : Int) * (x : Int) + (nthN L m : Int)).tmod p = (fadd p (fmul p v x) (nthN L m) : Nat) := by
        rw [q1, ← Int.natCast_add, Int.tmod_eq_emod_of_nonneg (by omega), ← Int.natCast_emod, ev_ref]
      have hl2 := fadd_lt hp (fmul p v x) (nthN L m)
      have HE := Lib.hid (evN_drop (p := p) (x := x) (show m < L.length by omega))
      clear q1 hm1
      go_wp2
      go_round
      case rel => exact ⟨m, fadd p (fmul p v x) (nthN L m), by omega, rfl, rfl, hl2, by rw [HE.out, ← HV.out]⟩
      case measure => simp [intOf]

set_option maxRecDepth 100000 in
set_option maxHeartbeats 400000 in
theorem refShort_any (A : Option Addr) (L : List Nat) (c : Nat) (w : World) (hN : NatsAt w A L) (hS : SlOK A c L) (hl : L.length ≤ 1073741824) :
    Calls Try.prog 39 #[.slice A L.length c] w (NewList (shN L) w) := by
  have hcl := hS.len
  have hcm := hS.cap
  unfold maxLen at hcm
  have HS := Lib.hid hS
  have HN := Lib.hid hN
  have hd := dgN_le L
  have hsl := shN_len L
  have HSL := Lib.hid hsl
  have HDS := Lib.hid (dgI_succ L)
  obtain ⟨hg1, hg2⟩ := dgI_ge L
  have e1 : IntKind.i64.wrap (dgI L + 1) = (dgN L : Int) := by rw [HDS.out]; exact IntWalk.i64_in _ (by omega)
  clear hN hS hsl
  rcases A with _ | ⟨b, off, spot⟩
  · obtain ⟨rfl, rfl⟩ := HS.out.empty rfl
    have e2 : dgN ([] : List Nat) = 0 := rfl
    rw [e2] at e1
    go_enter Try.func39, Try.ntmps39
    go_wp2_with fail
    refine ret_pure (refDegree_any none [] 0 _ (NatsAt.nil _ _) (by simp)) ?_
    go_wp2_with fail
    go_ret
    exact ⟨_, rfl, World.ownsRow_nil _ _ _ _, Below.refl _ _⟩
  · have hs : spot = none := HS.out.spot _ rfl
    subst hs
    go_enter Try.func39, Try.ntmps39
    go_wp2_with fail
    refine ret_pure (refDegree_any _ L c _ HN.out hl) ?_
    go_wp2_with (at_builtin; refine app_nats rfl (.const (.slice none 0 0)) (.tmp 7) rfl (base := w.heap.size) (S := []) (T := shN L) (c := c) (ad := ⟨b, off, none⟩) (v := .slice none 0 0) rfl (World.ownsRow_nil _ _ _ _) (by rw [HSL.out]; rfl) ((HN.out.take _).news rfl) (by simp [HSL.out]; omega) (by simp) ?_; intro v w1 hown hg hb; clear hg HN)
    go_ret
    exact ⟨_, rfl, hown, hb⟩
end Go.Proofs.Ythbablmgpjjphaa
