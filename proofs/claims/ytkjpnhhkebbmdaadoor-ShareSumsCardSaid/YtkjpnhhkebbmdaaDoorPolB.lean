/-
  Polynomials: the program's values and degrees.
-/
import Derived.Test.YtkjpnhhkebbmdaaDoorPolA
namespace Go.Proofs.YtkjpnhhkebbmdaaDoor
open Go.RowKit Go.Shelf

attribute [local go_sem] Oper.semAt_some

def EvI (p x : Nat) (L : List Nat) (w : World) (pre : List (Fin L.length)) (W : World) : Prop :=
  W.cell? ⟨w.heap.size + 1 + 1, 0, none⟩ = some (.int .i64 (evP p L x pre : Nat)) ∧ W.frozen? ⟨w.heap.size + 1 + 1, 0, none⟩ = false ∧
    W.cell? ⟨w.heap.size, 0, none⟩ = some (.int .i64 (p : Int)) ∧ W.cell? ⟨w.heap.size + 1, 0, none⟩ = some (.int .i64 (x : Int))
theorem EvI.own (p x : Nat) (L : List Nat) (w : World) : Own (EvI p x L w) := fun s A B row hs hg hr => by
  obtain ⟨h1, h2, h3, h4⟩ := hs
  exact ⟨cell_kept h1 hg hr, (frozen_kept h1 hg hr).trans h2, cell_kept h3 hg hr, cell_kept h4 hg hr⟩

theorem EvI.round {p x v c : Nat} {L : List Nat} {w W : World} {pre : List (Fin L.length)} {y : Fin L.length} (B : Nat) (hc : W.cell? ⟨w.heap.size + 1 + 1, 0, none⟩ = some (.int .i64 (v : Int))) (hf : W.frozen? ⟨w.heap.size + 1 + 1, 0, none⟩ = false)
    (hcp : W.cell? ⟨w.heap.size, 0, none⟩ = some (.int .i64 (p : Int))) (hcx : W.cell? ⟨w.heap.size + 1, 0, none⟩ = some (.int .i64 (x : Int))) (hB : Below w.heap.size w W) (hs : evP p L x (pre ++ [y]) = fadd p (fmul p v x) c) :
    KeepsFrom B W (W.setCell ⟨w.heap.size + 1 + 1, 0, none⟩ (.int .i64 (fadd p (fmul p v x) c : Nat))).drew ∧ KpB w.heap.size (w.heap.size + 1 + 1 + 1) W (W.setCell ⟨w.heap.size + 1 + 1, 0, none⟩ (.int .i64 (fadd p (fmul p v x) c : Nat))).drew ∧
      EvI p x L w (pre ++ [y]) (W.setCell ⟨w.heap.size + 1 + 1, 0, none⟩ (.int .i64 (fadd p (fmul p v x) c : Nat))).drew ∧ Below w.heap.size w (W.setCell ⟨w.heap.size + 1 + 1, 0, none⟩ (.int .i64 (fadd p (fmul p v x) c : Nat))).drew := by
  refine ⟨((KeepsOthers.setCell _ _ _).trans (KeepsOthers.drew _)).from _, ⟨((Below.refl _ W).setCell (by show _ ≤ w.heap.size + 1 + 1; omega) _).drew, Below.heap_setCell W _ _ _ (by simp)⟩, ⟨?_, ?_, ?_, ?_⟩, (hB.setCell (by show _ ≤ w.heap.size + 1 + 1; omega) _).drew⟩
  · rw [hs]; exact World.cell?_setCell_same' _ _ _ (by rw [hc]; rfl)
  · rw [frozen_drew_own, World.frozen?_setCell]; exact hf
  · rw [cell_drew_own, World.cell?_setCell_other _ _ _ _ (fun e => by injection e with e1; omega)]; exact hcp
  · rw [cell_drew_own, World.cell?_setCell_other _ _ _ _ (fun e => by injection e with e1; omega)]; exact hcx

set_option maxRecDepth 100000 in
set_option maxHeartbeats 4000000 in
theorem eval_any (p x : Nat) (A : Option Addr) (L : List Nat) (cap : Nat) (w : World) (hp : 1 ≤ p) (hp2 : p ≤ 2147483648) (hx : x < p) (hL : ∀ c ∈ L, c < p) (hN : NatsAt w A L) (hreach : L.length ≤ 1073741824) :
    Calls Tryd.prog 67 #[.int .i64 p, .slice A L.length cap, .int .i64 x] w (RetB (.int .i64 (evN p L x : Nat)) w) := by
  have HL := Lib.hid hL
  have HN := Lib.hid hN
  clear hL hN
  refine (callsIn_wide (n := 3)).1 ?_
  refine callsIn_of_wp_marks Tryd.func67 rfl trivial ?_ rfl
  simp only [Tryd.ntmps67, List.size_toArray, List.length_cons, List.length_nil, Nat.reduceAdd, Nat.reduceSub, Array.replicate_succ, Array.replicate_zero, List.push_toArray, List.append_toArray, List.nil_append, List.cons_append]
  gi_wp2_with (refine ⟨trivial, ?_⟩; gi_at_call 82; refine (back_in Fence.wide _ trivial rfl _ _ _ _).mono ?_; rintro e w' ⟨rfl, rfl⟩)
  have hB0 : Below w.heap.size w ((((w.alloc (.cells #[.int .i64 (p : Int)] 3)).alloc (.cells #[.int .i64 (x : Int)] 3)).alloc (.cells #[.int .i64 0] 3)).alloc (.cells #[.slice A L.length cap] 22)) :=
    ((((Below.refl _ w).alloc (Nat.le_refl _) _).alloc (by simp) _).alloc (by simp; omega) _).alloc (by simp; omega) _
  have bP := (((Boxed.new w 3 (.int .i64 (p : Int))).alloc (.cells #[.int .i64 (x : Int)] 3)).alloc (.cells #[.int .i64 0] 3)).alloc (.cells #[.slice A L.length cap] 22)
  have bX := ((Boxed.new (w.alloc (.cells #[.int .i64 (p : Int)] 3)) 3 (.int .i64 (x : Int))).alloc (.cells #[.int .i64 0] 3)).alloc (.cells #[.slice A L.length cap] 22)
  have bV := (Boxed.new ((w.alloc (.cells #[.int .i64 (p : Int)] 3)).alloc (.cells #[.int .i64 (x : Int)] 3)) 3 (.int .i64 0)).alloc (.cells #[.slice A L.length cap] 22)
  have bS := Boxed.new (((w.alloc (.cells #[.int .i64 (p : Int)] 3)).alloc (.cells #[.int .i64 (x : Int)] 3)).alloc (.cells #[.int .i64 0] 3)) 22 (.slice A L.length cap)
  simp only [World.size_alloc] at bX bV bS
  refine wpIn_rangeFunc_ownG rfl (by omega) (gf := 90) (lb := #[.pointer (some ⟨w.heap.size + 1 + 1 + 1, 0, none⟩)]) rfl trivial (enters_of Tryd.func90 (by kernel_rfl) rfl)
    (back_stops Fence.wide _ trivial rfl (by omega) (w.heap.size + 1 + 1 + 1) w.heap.size A L cap (by omega) _ bS.lt (by simp; omega) bS.cell (HN.out.low.below hB0)) KpB.trans (KpB.turn (by simp; omega) bS.lt) (Below.refl _ _) (fun _ => rfl)
    (fun pre W => EvI p x L w pre W ∧ Below w.heap.size w W)
    (fun _ _ _ => False)
    (OwnFrom.and (Own.from (EvI.own p x L w) _) (ownFrom_below (Nat.le_refl _) (by simp; omega)))
    (fun _ _ _ _ _ hs _ _ => hs)
    ⟨⟨bV.cell, bV.frozen, bP.cell, bX.cell⟩, hB0⟩
    (fun y => { tmps := #[.int .i64 (p : Int), .slice A L.length cap, .int .i64 (x : Int), .pointer (some ⟨w.heap.size, 0, none⟩), undef, .pointer (some ⟨w.heap.size + 1, 0, none⟩), .int .i64 0, .pointer (some ⟨w.heap.size + 1 + 1, 0, none⟩), undef, .int .i64 (nthN L y.1 : Int), .slice A L.length cap, .func (.func 90) #[] #[.pointer (some ⟨w.heap.size + 1 + 1 + 1, 0, none⟩)], .int .i64 (y.1 : Int), .int .i64 (nthN L y.1 : Int), undef, undef, undef, undef, undef, undef, undef, undef], defers := [] }) ?assign ?body ?done ?stop
  case assign =>
    intro l y W K hK
    gi_wp2
    exact hK
  case body =>
    rintro l pre y W ⟨⟨hc, hf, hcp, hcx⟩, hB⟩ _
    have hvl := evP_lt hp L x pre
    have hyl := nthN_lt hp HL.out y.1
    have hsn := evP_snoc p L x pre y
    generalize evP p L x pre = v at *
    generalize nthN L y.1 = c at *
    have HD := Lib.hid (fun B => EvI.round (w := w) B hc hf hcp hcx hB hsn)
    have hml := fmul_lt hp v x
    clear hsn
    have hmx : Tryd.prog.follows .mixedOrders = true := by kernel_rfl
    gi_wp2
    gi_region_with_o (first
      | (refine ⟨trivial, ?_⟩; gi_at_call 71; refine (CallsIn.inRound l (callsIn_wide.2 (mul_nat p v x _ hp hp2 hvl hx))).mono ?_; rintro e w' ⟨rfl, rfl⟩)
      | (refine ⟨trivial, ?_⟩; gi_at_call 70; refine (CallsIn.inRound l (callsIn_wide.2 (add_nat p (fmul p v x) c _ hp hp2 hml hyl))).mono ?_; rintro e w' ⟨rfl, rfl⟩))
    all_goals
      gi_wp2
      exact ⟨(HD.out _).1, (HD.out 0).2.1, (HD.out 0).2.2.1, (HD.out 0).2.2.2⟩
  case done =>
    rintro D ys W hD rfl ⟨⟨hc, hf, _, _⟩, hB⟩ hK
    rw [evP_all] at hc
    gi_wp2
    refine ⟨by simp, .inl ⟨_, _, rfl, run_takeDeferred hK, ?_⟩⟩
    exact ⟨_, results_tmp rfl _ _ _, rfl, hB.trans (belowK_b (w := w) (Nat.le_refl _) W D _ _ (by simp at hD; omega) hK rfl rfl)⟩
  case stop =>
    rintro D c pre W _ _ h _
    exact h.elim
end Go.Proofs.YtkjpnhhkebbmdaaDoor
