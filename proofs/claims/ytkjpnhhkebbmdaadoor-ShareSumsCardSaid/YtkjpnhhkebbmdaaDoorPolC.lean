/-
  Polynomials: the program's degrees; copies; polynomials without the zeros at their end.
-/
import Derived.Test.YtkjpnhhkebbmdaaDoorPolA
namespace Go.Proofs.YtkjpnhhkebbmdaaDoor
open Go.RowKit Go.Shelf

attribute [local go_sem] Oper.semAt_some

/-- The degree: -1 if there is none. -/
def dgI (L : List Nat) : Int := (dgN L : Int) - 1
theorem mem_dnF (n : Nat) : ∀ (k : Nat) (h : k ≤ n) (i : Fin n), i ∈ dnF n k h ↔ n - k ≤ i.1
  | 0, h, i => by simp [dnF]
  | k + 1, h, i => by
    rw [dnF, List.mem_append, mem_dnF n k (by omega) i, List.mem_singleton, Fin.ext_iff]
    show _ ∨ i.1 = n - 1 - k ↔ _
    have := i.2
    omega
/-- All that has come is 0. -/
def AllZ (L : List Nat) (pre : List (Fin L.length)) : Prop := ∀ y ∈ pre, nthN L y.1 = 0
/-- The last that came is not 0, all before it are. -/
def HitZ (L : List Nat) (pre : List (Fin L.length)) (i : Nat) : Prop := ∃ q y, pre = q ++ [y] ∧ AllZ L q ∧ nthN L y.1 ≠ 0 ∧ i = y.1
theorem AllZ.snoc {L : List Nat} {pre : List (Fin L.length)} {y : Fin L.length} (h : AllZ L pre) (hy : nthN L y.1 = 0) : AllZ L (pre ++ [y]) := fun z hz => by
  rcases List.mem_append.1 hz with hz | hz
  · exact h z hz
  · simp at hz; subst hz; exact hy
theorem AllZ.done {L : List Nat} (h : AllZ L (dnF L.length L.length (Nat.le_refl _))) : dgI L = -1 := by
  have : dgN L = 0 := dgN_eq (fun k _ => by
    by_cases hk : k < L.length
    · exact h ⟨k, hk⟩ ((mem_dnF _ _ _ _).2 (by simp))
    · exact nthN_ge (by omega)) (fun h => absurd h (by omega))
  unfold dgI; omega
theorem HitZ.stop {L : List Nat} {pre : List (Fin L.length)} {i : Nat} (h : HitZ L pre i) (hd : ∃ k h, pre = dnF L.length k h) : dgI L = (i : Int) := by
  obtain ⟨q, y, hp, hq, hy, rfl⟩ := h
  obtain ⟨k, hk, hd⟩ := hd
  rw [hp] at hd
  rcases k with _ | k
  · simp [dnF] at hd
  · rw [dnF] at hd
    obtain ⟨h1, h2⟩ := List.append_inj' hd rfl
    simp at h2
    have hv : y.1 = L.length - 1 - k := by rw [h2]
    have : dgN L = y.1 + 1 := dgN_eq (fun j hj => by
      by_cases hjl : j < L.length
      · exact hq ⟨j, hjl⟩ (by rw [h1, mem_dnF]; show _ ≤ j; omega)
      · exact nthN_ge (by omega)) (fun _ => hy)
    unfold dgI; omega

set_option maxRecDepth 100000 in
set_option maxHeartbeats 4000000 in
theorem degree_any (A : Option Addr) (L : List Nat) (cap : Nat) (w : World) (hN : NatsAt w A L) (hreach : L.length ≤ 1073741824) :
    Calls Tryd.prog 89 #[.slice A L.length cap] w (RetB (.int .i64 (dgI L)) w) := by
  have HN := Lib.hid hN
  clear hN
  refine (callsIn_wide (n := 3)).1 ?_
  refine callsIn_of_wp_marks Tryd.func89 rfl trivial ?_ rfl
  simp only [Tryd.ntmps89, List.size_toArray, List.length_cons, List.length_nil, Nat.reduceAdd, Nat.reduceSub, Array.replicate_succ, Array.replicate_zero, List.push_toArray, List.append_toArray, List.nil_append, List.cons_append]
  gi_wp2_with (refine ⟨trivial, ?_⟩; gi_at_call 82; refine (back_in Fence.wide _ trivial rfl _ _ _ _).mono ?_; rintro e w' ⟨rfl, rfl⟩)
  have hB0 : Below w.heap.size w ((w.alloc (.cells #[.int .i64 0] 3)).alloc (.cells #[.slice A L.length cap] 22)) :=
    ((Below.refl _ w).alloc (Nat.le_refl _) _).alloc (by simp) _
  have bV := (Boxed.new w 3 (.int .i64 0)).alloc (.cells #[.slice A L.length cap] 22)
  have bS := Boxed.new (w.alloc (.cells #[.int .i64 0] 3)) 22 (.slice A L.length cap)
  simp only [World.size_alloc] at bS
  refine wpIn_rangeFunc_ownG rfl (by omega) (gf := 90) (lb := #[.pointer (some ⟨w.heap.size + 1, 0, none⟩)]) rfl trivial (enters_of Tryd.func90 (by kernel_rfl) rfl)
    (back_stops Fence.wide _ trivial rfl (by omega) (w.heap.size + 1) w.heap.size A L cap (by omega) _ bS.lt (by simp; omega) bS.cell (HN.out.low.below hB0)) KpB.trans (KpB.turn (by simp; omega) bS.lt) (Below.refl _ _) (fun _ => rfl)
    (fun pre W => (AllZ L pre ∧ W.cell? ⟨w.heap.size, 0, none⟩ = some (.int .i64 0) ∧ W.frozen? ⟨w.heap.size, 0, none⟩ = false) ∧ Below w.heap.size w W)
    (fun c pre W => (c = .ret ∧ ∃ i, HitZ L pre i ∧ W.cell? ⟨w.heap.size, 0, none⟩ = some (.int .i64 (i : Int))) ∧ Below w.heap.size w W)
    (OwnFrom.and (Own.from (fun s A B row hs hg hr => ⟨hs.1, cell_kept hs.2.1 hg hr, (frozen_kept hs.2.1 hg hr).trans hs.2.2⟩) _) (ownFrom_below (Nat.le_refl _) (by simp; omega)))
    (fun c => OwnFrom.and (Own.from (fun s A B row hs hg hr => ⟨hs.1, by obtain ⟨i, h1, h2⟩ := hs.2; exact ⟨i, h1, cell_kept h2 hg hr⟩⟩) _) (ownFrom_below (Nat.le_refl _) (by simp; omega)))
    ⟨⟨fun y hy => (by cases hy), bV.cell, bV.frozen⟩, hB0⟩
    (fun y => { tmps := #[.slice A L.length cap, undef, .pointer (some ⟨w.heap.size, 0, none⟩), .int .i64 (y.1 : Int), .int .i64 (nthN L y.1 : Int), .slice A L.length cap, .func (.func 90) #[] #[.pointer (some ⟨w.heap.size + 1, 0, none⟩)], .int .i64 (y.1 : Int), .int .i64 (nthN L y.1 : Int), undef, undef, undef], defers := [] }) ?assign ?body ?done ?stop
  case assign =>
    intro l y W K hK
    gi_wp2
    exact hK
  case body =>
    rintro l pre y W ⟨⟨hz, hc, hf⟩, hB⟩ _
    by_cases h0 : nthN L y.1 = 0
    · have t0 : ((nthN L y.1 : Int) != 0) = false := by simp [h0]
      have HZ := Lib.hid (hz.snoc h0)
      clear h0 hz
      gi_wp2
      exact ⟨KeepsFrom.refl _ _, KpB.refl _ _ _, ⟨HZ.out, hc, hf⟩, hB⟩
    · have t0 : ((nthN L y.1 : Int) != 0) = true := by simp; omega
      have HZ := Lib.hid (show HitZ L (pre ++ [y]) y.1 from ⟨pre, y, rfl, hz, h0, rfl⟩)
      clear h0 hz
      gi_wp2
      exact ⟨(KeepsOthers.setCell _ _ _).from _, ⟨rfl, y.1, HZ.out, World.cell?_setCell_same' _ _ _ (by rw [hc]; rfl)⟩, hB.setCell (p := ⟨w.heap.size, 0, none⟩) (Nat.le_refl _) _⟩
  case done =>
    rintro D ys W hD rfl ⟨⟨hz, hc, hf⟩, hB⟩ hK
    have HD := Lib.hid hz.done
    clear hz
    gi_wp2
    have hK' := (KeepsOthers.setCell W ⟨w.heap.size, 0, none⟩ (.int .i64 (-1))).same D _ hK rfl
    refine ⟨by simp, .inl ⟨_, _, rfl, run_takeDeferred hK', ?_⟩⟩
    have hc5 := cell_kept (World.cell?_setCell_same' W ⟨w.heap.size, 0, none⟩ (.int .i64 (-1)) (by rw [hc]; rfl)) (grownBy_putObj' _ D (.deferred none)) (fun r e => by cases e; exact ⟨_, hK', rfl⟩)
    refine ⟨.int .i64 (-1), ?_, by rw [HD.out], (hB.setCell (p := ⟨w.heap.size, 0, none⟩) (Nat.le_refl _) _).trans (belowK_b (w := w) (Nat.le_refl _) _ D _ _ (by simp at hD; omega) hK' rfl rfl)⟩
    simp [results, Tryd.f89, go_sem, hc5]
  case stop =>
    rintro D c pre W hD hpre ⟨⟨rfl, i, hi, hc⟩, hB⟩ hK
    have HD := Lib.hid (hi.stop hpre)
    clear hi hpre
    gi_wp2
    refine ⟨by simp, .inl ⟨_, _, rfl, run_takeDeferred hK, ?_⟩⟩
    have hc5 := cell_kept hc (grownBy_putObj' _ D (.deferred none)) (fun r e => by cases e; exact ⟨_, hK, rfl⟩)
    refine ⟨.int .i64 i, ?_, by rw [HD.out], hB.trans (belowK_b (w := w) (Nat.le_refl _) W D _ _ (by simp at hD; omega) hK rfl rfl)⟩
    simp [results, Tryd.f89, go_sem, hc5]
end Go.Proofs.YtkjpnhhkebbmdaaDoor
