/-
  Shares: the error of a list that is to give a secret; the secret.
-/
import Derived.Test.YtkjpnhhkebbmdaaDoorShE
import Derived.Deep.RegionHeld3
import Derived.Deep.AppendLies
namespace Go.Proofs.YtkjpnhhkebbmdaaDoor
open Go.RowKit

/-! ### Good lists are of natural numbers -/
structure GoodN (p h : Nat) (N : List ShN) : Prop where
  rng : ∀ k, k < N.length → 1 ≤ hN N k ∧ hN N k ≤ h ∧ ∀ x ∈ vN N k, x < p
  len : ∀ k, k < N.length → (vN N k).length = (vN N 0).length
  few : ∀ k, k < N.length → (vN N k).length ≤ 2048
  nd : (hsN N).Nodup
def natS (s : Shr) : ShN := (s.1.toNat, s.2.map Int.toNat)
def natL (S : List Shr) : List ShN := S.map natS
theorem natL_len (S : List Shr) : (natL S).length = S.length := by simp [natL]
theorem toNat_ofN (L : List Nat) : (ofN L).map Int.toNat = L := by simp [ofN, Function.comp_def]
theorem natL_shL (N : List ShN) : natL (shL N) = N := by
  simp only [natL, shL, List.map_map]
  conv => rhs; rw [← List.map_id N]
  refine List.map_congr_left fun s _ => ?_
  simp only [Function.comp, natS, shI, Int.toNat_natCast, toNat_ofN, id]
theorem inside_nat {p : Nat} {L : List Int} (h : inside (p : Int) L = true) : ofN (L.map Int.toNat) = L ∧ ∀ x ∈ L.map Int.toNat, x < p := by
  unfold inside at h
  rw [List.all_eq_true] at h
  refine ⟨?_, fun x hx => ?_⟩
  · simp only [ofN, List.map_map]
    conv => rhs; rw [← List.map_id L]
    refine List.map_congr_left fun x hx => ?_
    have := h x hx
    simp only [Bool.and_eq_true, decide_eq_true_eq] at this
    simp only [Function.comp, id]; omega
  · obtain ⟨y, hy, rfl⟩ := List.mem_map.1 hx
    have := h y hy
    simp only [Bool.and_eq_true, decide_eq_true_eq] at this
    omega
theorem nat_inside {p : Nat} {L : List Nat} (h : ∀ x ∈ L, x < p) : inside (p : Int) (ofN L) = true := by
  unfold inside
  rw [List.all_eq_true]
  intro x hx
  obtain ⟨y, hy, rfl⟩ := List.mem_map.1 hx
  have := h y hy
  simp only [Bool.and_eq_true, decide_eq_true_eq]; omega
theorem nodup_hsN {N : List ShN} (h : ∀ k, k < N.length → ∀ j, j < k → hN N j ≠ hN N k) : (hsN N).Nodup := by
  refine List.pairwise_iff_getElem.2 fun i j hi hj hij => ?_
  have e1 : (hsN N)[i] = hN N i := by rw [← nthN_eq hi, hsN_nth (by rw [hsN_len] at hi; exact hi)]
  have e2 : (hsN N)[j] = hN N j := by rw [← nthN_eq hj, hsN_nth (by rw [hsN_len] at hj; exact hj)]
  rw [e1, e2]
  exact h j (by rw [hsN_len] at hj; exact hj) i hij
theorem hsN_ne {N : List ShN} (h : (hsN N).Nodup) {i j : Nat} (hi : i < N.length) (hj : j < N.length) (hij : i ≠ j) : hN N i ≠ hN N j := fun e => by
  have hi' : i < (hsN N).length := by rw [hsN_len]; exact hi
  have hj' : j < (hsN N).length := by rw [hsN_len]; exact hj
  have e1 : (hsN N)[i] = hN N i := by rw [← nthN_eq hi', hsN_nth hi]
  have e2 : (hsN N)[j] = hN N j := by rw [← nthN_eq hj', hsN_nth hj]
  exact hij ((List.getElem_inj (h₀ := hi') (h₁ := hj') h).1 (by rw [e1, e2, e]))
theorem gd_nat {p h : Nat} {S : List Shr} (g : GdP p h S) : S = shL (natL S) ∧ GoodN p h (natL S) := by
  have hst : ∀ k, k < S.length → 1 ≤ hS S k ∧ hS S k ≤ h ∧ inside (p : Int) (vS S k) = true := fun k hk => stB_bd (g k hk).st
  have hk0 : ∀ k, k < S.length → hN (natL S) k = (hS S k).toNat ∧ vN (natL S) k = (vS S k).map Int.toNat := fun k hk => by
    simp [hN, vN, natL, natS, hS, vS, List.getD_eq_getElem?_getD, hk]
  have heq : S = shL (natL S) := by
    refine List.ext_getElem (by rw [shL_len, natL_len]) fun k h1 h2 => ?_
    have hs := hst k h1
    have e1 : S[k] = (hS S k, vS S k) := by simp [hS, vS, List.getD_eq_getElem?_getD, h1]
    simp only [shL, natL, List.getElem_map, natS, shI]
    rw [e1]
    simp only
    rw [(inside_nat hs.2.2).1, Int.toNat_of_nonneg (by omega)]
  refine ⟨heq, fun k hk => ?_, fun k hk => ?_, fun k hk => ?_, nodup_hsN fun k hk j hj => ?_⟩
  · rw [natL_len] at hk
    have hs := hst k hk
    obtain ⟨e1, e2⟩ := hk0 k hk
    rw [e1, e2]
    exact ⟨by omega, by omega, (inside_nat hs.2.2).2⟩
  · rw [natL_len] at hk
    rw [(hk0 k hk).2, (hk0 0 (by omega)).2, List.length_map, List.length_map]; exact (g k hk).len
  · rw [natL_len] at hk
    rw [(hk0 k hk).2, List.length_map]; exact (g k hk).few
  · rw [natL_len] at hk
    have h1 := hst k hk
    have h2 := hst j (by omega)
    have h3 := (g k hk).new j hj
    rw [(hk0 k hk).1, (hk0 j (by omega)).1]; omega
theorem gd_back {p h : Nat} {N : List ShN} (g : GoodN p h N) : GdP p h (shL N) := fun k hk => by
  rw [shL_len] at hk
  obtain ⟨r1, r2, r3⟩ := g.rng k hk
  refine ⟨?_, ?_, ?_, fun j hj => ?_⟩
  · rw [hS_shL hk, vS_shL]
    unfold stB
    rw [decide_eq_true (by omega), decide_eq_true (by omega), nat_inside r3]; rfl
  · rw [vS_shL, vS_shL, len_ofN, len_ofN]; exact g.len k hk
  · rw [vS_shL, len_ofN]; exact g.few k hk
  · rw [hS_shL hk, hS_shL (by omega)]
    have := hsN_ne g.nd (show j < N.length by omega) hk (by omega)
    omega
theorem GoodN.take {p h : Nat} {N : List ShN} (g : GoodN p h N) (n : Nat) (hn : n ≤ N.length) : GoodN p h (N.take n) := by
  have hl : (N.take n).length = n := by rw [List.length_take]; omega
  refine ⟨fun k hk => ?_, fun k hk => ?_, fun k hk => ?_, ?_⟩
  · rw [hN_take (by omega), vN_take (by omega)]; exact g.rng k (by omega)
  · rw [vN_take (by omega), vN_take (by omega)]; exact g.len k (by omega)
  · rw [vN_take (by omega)]; exact g.few k (by omega)
  · have : hsN (N.take n) = (hsN N).take n := by simp [hsN, List.map_take]
    rw [this]; exact g.nd.sublist (List.take_sublist _ _)
theorem GoodN.hlt {p h : Nat} {N : List ShN} (g : GoodN p h N) (hp : h < p) : ∀ y ∈ hsN N, y < p := fun y hy => by
  obtain ⟨s, hs, rfl⟩ := List.mem_map.1 hy
  obtain ⟨k, hk, rfl⟩ := shl_mem hs
  have := g.rng k hk; simp only; omega
theorem GoodN.clt {p h : Nat} {N : List ShN} (g : GoodN p h N) (hp : 1 ≤ p) (i : Nat) : ∀ y ∈ colN N i, y < p := fun y hy => by
  obtain ⟨s, hs, rfl⟩ := List.mem_map.1 hy
  obtain ⟨k, hk, rfl⟩ := shl_mem hs
  exact nthN_lt hp (g.rng k hk).2.2 i

/-! ### The error, the secret -/
noncomputable def cmE (p n h : Int) (S : List Shr) : Int := if plB p n h = true then (if gdB p h S = true then (if (S.length : Int) < n then 5 else 0) else 1) else 1
theorem cmE_pl {p n h : Int} {S : List Shr} (H : plB p n h = false) : 1 = cmE p n h S := by unfold cmE; rw [H]; rfl
theorem cmE_gd {p n h : Int} {S : List Shr} (H : gdB p h S = false) : 1 = cmE p n h S := by unfold cmE; rw [H]; split <;> rfl
theorem cmE_few {p n h : Int} {S : List Shr} (H : plB p n h = true) (H2 : gdB p h S = true) (H3 : (S.length : Int) < n) : 5 = cmE p n h S := by unfold cmE; rw [H, H2]; simp [H3]
theorem cmE_ok {p n h : Int} {S : List Shr} (H : plB p n h = true) (H2 : gdB p h S = true) (H3 : ¬ (S.length : Int) < n) : 0 = cmE p n h S := by unfold cmE; rw [H, H2]; simp [H3]
theorem cmE_zero {p n h : Int} {S : List Shr} (H : cmE p n h S = 0) : plB p n h = true ∧ gdB p h S = true ∧ n ≤ S.length := by
  unfold cmE at H
  split at H
  · split at H
    · split at H
      · cases H
      · exact ⟨by assumption, by assumption, by omega⟩
    · cases H
  · cases H
def combN (p n : Nat) (N : List ShN) : List Nat := (List.range (vN N 0).length).map fun i => wgN p (wsN p (hsN (N.take n)) 0) (colN (N.take n) i) n
theorem combN_len (p n : Nat) (N : List ShN) : (combN p n N).length = (vN N 0).length := by simp [combN]
theorem combN_nth {p n : Nat} {N : List ShN} {i : Nat} (h : i < (vN N 0).length) : nthN (combN p n N) i = wgN p (wsN p (hsN (N.take n)) 0) (colN (N.take n) i) n := by
  rw [nthN_eq (by rw [combN_len]; exact h)]; simp [combN]
theorem combN_take {p n : Nat} {N : List ShN} {i : Nat} (h : i < (vN N 0).length) : (combN p n N).take (i + 1) = (combN p n N).take i ++ [wgN p (wsN p (hsN (N.take n)) 0) (colN (N.take n) i) n] := by
  rw [List.take_succ_eq_append_getElem (by rw [combN_len]; exact h), ← nthN_eq, combN_nth h]
noncomputable def cmL (p n h : Int) (S : List Shr) : List Nat := if cmE p n h S = 0 then combN p.toNat n.toNat (natL S) else []
theorem cmL_no {p n h : Int} {S : List Shr} (H : cmE p n h S ≠ 0) : cmL p n h S = [] := by unfold cmL; rw [if_neg H]
theorem cmL_ok {p n h : Nat} {N : List ShN} (H : cmE p n h (shL N) = 0) : cmL p n h (shL N) = combN p n N := by
  unfold cmL; rw [if_pos H, natL_shL, Int.toNat_natCast, Int.toNat_natCast]

set_option maxRecDepth 100000 in
set_option maxHeartbeats 1000000 in
theorem check_share {P : Nat → Prop} (p n h : Int) (A : Option Addr) (c : Nat) (S : List Shr) (w : World) (hB : Bases w) (hS : ShP P w A c S) (hsh : Short S) (hl : S.length ≤ 1048576) :
    Calls Tryd.prog 50 #[planV p n h, .slice A S.length c] w (RetB (.int .i64 (cmE p n h S)) w) := by
  have hv := valid_plan p n h (w.alloc (.cells #[.int .i64 p, .int .i64 n, .int .i64 h] 24)) (hB.keep (below_alloc _ _))
  have HS := Lib.hid hS
  have HSH := Lib.hid hsh
  clear hS hsh hB
  cases hp : plB p n h with
  | false =>
    have HE := Lib.hid (cmE_pl (S := S) hp)
    rw [hp] at hv
    have HV := Lib.hid hv
    clear hp hv
    go_enter Tryd.func50, Tryd.ntmps50
    go_wp2_with fail
    refine ret_below HV.out ?_
    intro w1 hb1
    go_wp2_with fail
    go_ret
    exact RetB.int HE.out (below_trans (below_alloc _ _) hb1)
  | true =>
    rw [hp] at hv
    have HV := Lib.hid hv
    obtain ⟨-, -, h16, -, -⟩ := of_decide_eq_true hp
    have hg := fun (W : World) (hb : Below w.heap.size w W) => good_any p n h A c S W (HS.out.below hb) HSH.out h16 hl
    cases hq : gdB p h S with
    | false =>
      have HE := Lib.hid (cmE_gd (n := n) hq)
      rw [hq] at hg
      have HG := Lib.hid hg
      clear hp hv hq hg
      go_enter Tryd.func50, Tryd.ntmps50
      go_wp2_with fail
      refine ret_below HV.out ?_
      intro w1 hb1
      have hbw := below_trans (below_alloc _ _) hb1
      have hpl := (PlanCell.new (w := w) p n h rfl).below hb1
      have p0 := hpl.c0
      have p1 := hpl.c1
      have p2 := hpl.c2
      go_wp2_with fail
      refine ret_below (HG.out _ hbw) ?_
      intro w2 hb2
      go_wp2_with fail
      go_ret
      exact RetB.int HE.out (below_trans hbw hb2)
    | true =>
      have HE1 := Lib.hid (fun H => cmE_few hp hq H)
      have HE2 := Lib.hid (fun H => cmE_ok hp hq H)
      rw [hq] at hg
      have HG := Lib.hid hg
      clear hp hv hq hg
      go_enter Tryd.func50, Tryd.ntmps50
      go_wp2_with fail
      refine ret_below HV.out ?_
      intro w1 hb1
      have hbw := below_trans (below_alloc _ _) hb1
      have hpl := (PlanCell.new (w := w) p n h rfl).below hb1
      have p0 := hpl.c0
      have p1 := hpl.c1
      have p2 := hpl.c2
      have HP := Lib.hid hpl
      go_wp2_with fail
      refine ret_below (HG.out _ hbw) ?_
      intro w2 hb2
      have q1 := (HP.out.below hb2).c1
      by_cases hfew : (S.length : Int) < n
      · have HE := Lib.hid (HE1.out (by omega))
        go_wp2_with fail
        go_ret
        exact RetB.int HE.out (below_trans hbw hb2)
      · have HE := Lib.hid (HE2.out (by omega))
        go_wp2_with fail
        go_ret
        exact RetB.int HE.out (below_trans hbw hb2)
end Go.Proofs.YtkjpnhhkebbmdaaDoor
